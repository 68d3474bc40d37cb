/- Plain laws: orders of places are permutations of the first numbers. No condition. -/
import Derived.Test.YtppdikegmijfgaaPlain17
set_option linter.unusedVariables false
namespace Go.Proofs.Ytppdikegmijfgaa

theorem perm_of_sub {α : Type} [BEq α] [LawfulBEq α] : ∀ (l m : List α), l.Nodup → (∀ x ∈ l, x ∈ m) → m.length ≤ l.length → l.Perm m
  | [], m, _, _, hl => by
    have : m = [] := List.eq_nil_of_length_eq_zero (by simpa using hl)
    rw [this]
  | a :: l, m, hn, hs, hl => by
    have ha : a ∈ m := hs a (by simp)
    have hn' := List.nodup_cons.1 hn
    have h1 := perm_of_sub l (m.erase a) hn'.2 (fun x hx => (List.mem_erase_of_ne (fun e => hn'.1 (by rw [← e]; exact hx))).2 (hs x (by simp [hx]))) (by
      rw [List.length_erase_of_mem ha]; simp at hl; omega)
    exact (h1.cons a).trans (List.perm_cons_erase ha).symm
/-- 0, 1, .., n-1. -/
def iota (n : Nat) : List Int := (List.range n).map fun i : Nat => (i : Int)
theorem iota_len (n : Nat) : (iota n).length = n := by simp [iota]
theorem iota_mem {n : Nat} {z : Int} : z ∈ iota n ↔ 0 ≤ z ∧ z < n := by
  simp only [iota, List.mem_map, List.mem_range]
  constructor
  · rintro ⟨i, hi, rfl⟩; omega
  · rintro ⟨h0, h1⟩; exact ⟨z.toNat, by omega, by omega⟩
theorem iota_nodup (n : Nat) : (iota n).Nodup := by
  unfold iota
  refine List.Pairwise.map _ (fun a b h e => h (by omega)) (List.nodup_range (n := n))
theorem iota_at (n k : Nat) (h : k < n) : (iota n)[k]? = some (k : Int) := by simp [iota, h]
theorem perm_of_full {zs : List Int} (h : ∀ i, i < zs.length → (i : Int) ∈ zs) : (iota zs.length).Perm zs :=
  perm_of_sub _ _ (iota_nodup _) (fun x hx => by
    obtain ⟨h0, h1⟩ := iota_mem.1 hx
    have := h x.toNat (by omega)
    rwa [Int.toNat_of_nonneg h0] at this) (by rw [iota_len]; exact Nat.le_refl _)
theorem perm_of_plv {zs : List Int} (h : plv zs = true) : zs.Perm (iota zs.length) :=
  perm_of_sub _ _ (plv_nodup h) (fun x hx => by
    simp only [plv, Bool.and_eq_true, decide_eq_true_eq] at h
    exact iota_mem.2 (h.2.1 x hx)) (by rw [iota_len]; exact Nat.le_refl _)
theorem plv_of_perm {zs : List Int} {n : Nat} (hn : n ≤ 200) (h : zs.Perm (iota n)) : plv zs = true := by
  have hl := h.length_eq
  rw [iota_len] at hl
  simp only [plv, Bool.and_eq_true, decide_eq_true_eq]
  refine ⟨by omega, fun z hz => ?_, h.symm.nodup (iota_nodup n)⟩
  rw [hl]
  exact iota_mem.1 (h.mem_iff.1 hz)
/-- Every number below the length occurs. -/
def full (zs : List Int) : Bool := decide (zs.length ≤ 200) && decide (∀ i, i < zs.length → (i : Int) ∈ zs)
theorem plv_full (zs : List Int) : plv zs = full zs := by
  rw [Bool.eq_iff_iff]
  simp only [full, Bool.and_eq_true, decide_eq_true_eq]
  constructor
  · intro h
    refine ⟨plv_len h, fun i hi => ?_⟩
    exact (perm_of_plv h).mem_iff.2 (iota_mem.2 (by omega))
  · rintro ⟨h1, h2⟩
    exact plv_of_perm h1 (perm_of_full h2).symm
end Go.Proofs.Ytppdikegmijfgaa
