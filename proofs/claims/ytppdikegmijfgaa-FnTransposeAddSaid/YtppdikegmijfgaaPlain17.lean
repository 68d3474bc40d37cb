/- Plain laws on orders of places, as lists of integers. No condition. -/
import Derived.Test.YtppdikegmijfgaaMem
set_option linter.unusedVariables false
namespace Go.Proofs.Ytppdikegmijfgaa

/-- A list is an order of places. -/
def plv (zs : List Int) : Bool := decide (zs.length ≤ 200) && (decide (∀ z ∈ zs, 0 ≤ z ∧ z < zs.length) && decide zs.Nodup)
theorem plv_len {zs : List Int} (h : plv zs = true) : zs.length ≤ 200 := by simp only [plv, Bool.and_eq_true, decide_eq_true_eq] at h; exact h.1
theorem plv_at {zs : List Int} {k : Nat} {z : Int} (h : plv zs = true) (hk : zs[k]? = some z) : 0 ≤ z ∧ z < zs.length := by
  simp only [plv, Bool.and_eq_true, decide_eq_true_eq] at h
  exact h.2.1 z (List.mem_of_getElem? hk)
theorem plv_nodup {zs : List Int} (h : plv zs = true) : zs.Nodup := by simp only [plv, Bool.and_eq_true, decide_eq_true_eq] at h; exact h.2.2

/-- The first k places are within range and all different. -/
def pok (zs : List Int) (k : Nat) : Prop := (∀ z ∈ zs.take k, 0 ≤ z ∧ z < zs.length) ∧ (zs.take k).Nodup
theorem pok_zero (zs : List Int) : pok zs 0 := by simp [pok]
theorem pok_succ {zs : List Int} {k : Nat} {z : Int} (h : pok zs k) (hk : zs[k]? = some z) (h0 : 0 ≤ z) (h1 : z < zs.length) (hn : z ∉ zs.take k) : pok zs (k + 1) := by
  unfold pok
  rw [take_snoc zs k z hk]
  refine ⟨fun y hy => ?_, ?_⟩
  · rcases List.mem_append.1 hy with hy | hy
    · exact h.1 y hy
    · simp at hy; subst hy; exact ⟨h0, h1⟩
  · rw [List.nodup_append]
    refine ⟨h.2, by simp, fun a ha b hb => ?_⟩
    simp at hb
    subst hb
    intro e
    subst e
    exact hn ha
theorem pok_all {zs : List Int} (h2 : zs.length ≤ 200) (h : pok zs zs.length) : plv zs = true := by
  unfold pok at h
  rw [List.take_length] at h
  simp only [plv, Bool.and_eq_true, decide_eq_true_eq]
  exact ⟨h2, h.1, h.2⟩
theorem plv_out {zs : List Int} {k : Nat} {z : Int} (hk : zs[k]? = some z) (h : ¬ (0 ≤ z ∧ z < zs.length)) : plv zs = false := by
  rw [← Bool.not_eq_true]
  intro hp
  exact h (plv_at hp hk)
theorem plv_twice {zs : List Int} {k : Nat} {z : Int} (hk : zs[k]? = some z) (h : z ∈ zs.take k) : plv zs = false := by
  rw [← Bool.not_eq_true]
  intro hp
  have hn := plv_nodup hp
  obtain ⟨j, hj, hjz⟩ := List.mem_iff_getElem.1 h
  have hjk : j < k := by have := hj; simp at this; omega
  have hkl : k < zs.length := (List.getElem?_eq_some_iff.1 hk).1
  have e1 : zs[j] = z := by rw [List.getElem_take] at hjz; exact hjz
  have e2 : zs[k] = z := by rw [List.getElem?_eq_getElem hkl] at hk; injection hk
  exact List.pairwise_iff_getElem.1 hn j k (by omega) hkl hjk (e1.trans e2.symm)
theorem plv_long {zs : List Int} (h : 200 < zs.length) : plv zs = false := by
  simp [plv]; intro h2; omega

/-- Which places have been seen behind k rounds. -/
def seenL (m : Nat) (zs : List Int) (k : Nat) : List Bool := (List.range m).map fun j : Nat => decide ((j : Int) ∈ zs.take k)
theorem seenL_len (m : Nat) (zs : List Int) (k : Nat) : (seenL m zs k).length = m := by simp [seenL]
theorem seenL_zero (m : Nat) (zs : List Int) : seenL m zs 0 = List.replicate m false := by
  apply List.ext_getElem
  · simp [seenL]
  · intro i h1 h2; simp [seenL]
theorem seenL_at (m : Nat) (zs : List Int) (k j : Nat) (hj : j < m) : (seenL m zs k)[j]? = some (decide ((j : Int) ∈ zs.take k)) := by simp [seenL, hj]
theorem seenL_set (m : Nat) (zs : List Int) (k j : Nat) (hk : zs[k]? = some (j : Int)) : (seenL m zs k).set j true = seenL m zs (k + 1) := by
  apply List.ext_getElem?
  intro i
  rw [List.getElem?_set, seenL_len]
  by_cases him : i < m
  · rw [seenL_at m zs (k + 1) i him, seenL_at m zs k i him, take_snoc zs k _ hk]
    by_cases hij : j = i
    · subst hij; simp [him]
    · simp [hij]
      have : ¬ ((i : Int) = (j : Int)) := by omega
      simp [this]
  · rw [List.getElem?_eq_none (by rw [seenL_len]; omega), List.getElem?_eq_none (by rw [seenL_len]; omega)]
    split <;> simp; omega

/-- Bools as cells. -/
def blcells (l : List Bool) : List Value := l.map Value.bool
theorem blcells_at {l : List Bool} {k : Nat} {b : Bool} (h : l[k]? = some b) : (blcells l)[k]? = some (.bool b) := by simp [blcells, h]
theorem blcells_len (l : List Bool) : (blcells l).length = l.length := by simp [blcells]
theorem blcells_set (l : List Bool) (k : Nat) (b : Bool) : (blcells l).set k (.bool b) = blcells (l.set k b) := by simp [blcells, List.map_set]
end Go.Proofs.Ytppdikegmijfgaa
