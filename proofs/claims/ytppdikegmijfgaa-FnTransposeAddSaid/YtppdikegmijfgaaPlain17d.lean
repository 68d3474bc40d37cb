/- Plain laws on reading words in orders of places. No condition. -/
import Derived.Test.YtppdikegmijfgaaPlain17c
import Derived.Test.YtppdikegmijfgaaRead
set_option linter.unusedVariables false
namespace Go.Proofs.Ytppdikegmijfgaa

theorem wv_ofR {l : List Nat} (h1 : l.length ≤ 200) (h2 : ∀ x ∈ l, 97 ≤ x ∧ x ≤ 106) : wv l = true := by
  simp only [wv, Bool.and_eq_true, decide_eq_true_eq]
  refine ⟨h1, List.all_eq_true.2 fun x hx => ?_⟩
  have := h2 x hx
  simp [isL]; omega
theorem wv_mem {l : List Nat} {x : Nat} (h : wv l = true) (hx : x ∈ l) : 97 ≤ x ∧ x ≤ 106 := by
  obtain ⟨k, hk, rfl⟩ := List.mem_iff_getElem.1 hx
  exact wv_at h (List.getElem?_eq_getElem hk)
theorem readL_perm {l : List Nat} {zs : List Int} (hz : plv zs = true) (hl : l.length = zs.length) : (readL l zs).Perm l := by
  have h1 := (perm_of_plv hz).map fun z => l.getD z.toNat 0
  have h2 : (iota zs.length).map (fun z => l.getD z.toNat 0) = l := by
    apply List.ext_getElem (by rw [List.length_map, iota_len, hl])
    intro i h3 h4
    simp [iota, h4]
  rw [h2] at h1
  exact h1
theorem wv_readL {l : List Nat} {zs : List Int} (hw : wv l = true) (hz : plv zs = true) (hl : l.length = zs.length) : wv (readL l zs) = true := by
  refine wv_ofR ?_ fun x hx => wv_mem hw ((readL_perm hz hl).mem_iff.1 hx)
  rw [readL_len]; exact plv_len hz
theorem readL_get {l : List Nat} {zs : List Int} {k : Nat} (hz : plv zs = true) (hl : l.length = zs.length) (hk : k < zs.length) : ∃ z c : Nat, zs[k]? = some (z : Int) ∧ z < zs.length ∧ l[z]? = some c ∧ (readL l zs)[k]? = some c := by
  obtain ⟨z, h1, h2⟩ := plv_nat hz hk
  obtain ⟨c, hc⟩ := get_some l z (by omega)
  exact ⟨z, c, h1, h2, hc, readL_at h1 hc⟩
theorem readL_join {l : List Nat} {f s : List Int} (hf : plv f = true) (hs : plv s = true) (hl : l.length = f.length) (hfs : f.length = s.length) : readL (readL l f) s = readL l (joinL f s) := by
  apply List.ext_getElem?
  intro k
  by_cases hk : k < s.length
  · obtain ⟨z, h1, h2⟩ := plv_nat hs hk
    obtain ⟨y, c, h3, h4, h5, h6⟩ := readL_get hf hl (by omega : z < f.length)
    rw [readL_at h1 h6]
    symm
    exact readL_at (joinL_at h1 (by simpa using h3)) h5
  · rw [List.getElem?_eq_none (by rw [readL_len]; omega), List.getElem?_eq_none (by rw [readL_len, joinL_len]; omega)]
theorem readL_undo {l : List Nat} {zs : List Int} (hz : plv zs = true) (hl : l.length = zs.length) : readL (readL l zs) (undoL zs) = l := by
  apply List.ext_getElem?
  intro k
  by_cases hk : k < zs.length
  · obtain ⟨i, h1, h2⟩ := undo_nat hz hk
    obtain ⟨z, c, h3, h4, h5, h6⟩ := readL_get hz hl h2
    rw [readL_at h1 h6]
    have := undo_back hz h1
    rw [h3] at this
    injection this with this
    have : z = k := by omega
    rw [← this, h5]
  · rw [List.getElem?_eq_none (by rw [readL_len, undoL_len]; omega), List.getElem?_eq_none (by omega)]
theorem undo_readL {l : List Nat} {zs : List Int} (hz : plv zs = true) (hl : l.length = zs.length) : readL (readL l (undoL zs)) zs = l := by
  have := readL_undo (l := l) (plv_undo hz) (by rw [undoL_len]; exact hl)
  rwa [undo_undo hz] at this
/-- How often each letter occurs. -/
def countsK (l : List Nat) (k : Nat) : List Int := (List.range 10).map fun d => (((l.take k).count (97 + d) : Nat) : Int)
def countsL (l : List Nat) : List Int := countsK l l.length
def lc (l : List Nat) : List Int := if wv l then countsL l else []
theorem countsK_len (l : List Nat) (k : Nat) : (countsK l k).length = 10 := by simp [countsK]
theorem countsK_zero (l : List Nat) : countsK l 0 = List.replicate 10 0 := by
  rfl
theorem countsK_at (l : List Nat) (k d : Nat) (h : d < 10) : (countsK l k)[d]? = some (((l.take k).count (97 + d) : Nat) : Int) := by simp [countsK, h]
theorem countsK_set (l : List Nat) (k d : Nat) (hc : l[k]? = some (97 + d)) (h : d < 10) : (countsK l k).set d ((((l.take k).count (97 + d) : Nat) : Int) + 1) = countsK l (k + 1) := by
  apply List.ext_getElem?
  intro i
  rw [List.getElem?_set, countsK_len]
  by_cases hi : i < 10
  · rw [countsK_at l (k + 1) i hi, countsK_at l k i hi, take_snoc l k _ hc, List.count_append]
    by_cases e : d = i
    · subst e; simp [h]
    · have e2 : ¬ (97 + d = 97 + i) := by omega
      simp [e]
  · rw [List.getElem?_eq_none (by rw [countsK_len]; omega), List.getElem?_eq_none (by rw [countsK_len]; omega)]
    split <;> simp; omega
theorem lc_perm {l m : List Nat} (h : l.Perm m) (hw : wv l = wv m) : lc l = lc m := by
  unfold lc countsL
  rw [hw]
  have : countsK l l.length = countsK m m.length := by
    unfold countsK
    rw [List.take_length, List.take_length]
    apply List.map_congr_left
    intro d _
    rw [h.count_eq]
  rw [this]
theorem count_le (l : List Nat) (k x : Nat) : (l.take k).count x ≤ k := Nat.le_trans List.count_le_length (List.length_take_le _ _)
end Go.Proofs.Ytppdikegmijfgaa
