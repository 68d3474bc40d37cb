/- Plain laws on words with gaps, as lists of numbers. No condition. -/
import Derived.Test.YtilnffidckdadaaMem
set_option linter.unusedVariables false
namespace Go.Proofs.Ytilnffidckdadaa

/-- All of a list of tests pass. -/
def allB (l : List Bool) : Bool := l.all id
def bup (l : List Bool) (k : Nat) : Prop := ∀ j, j < k → ∀ b, l[j]? = some b → b = true
theorem bup_zero (l : List Bool) : bup l 0 := fun j h => absurd h (by omega)
theorem bup_succ {l : List Bool} {k : Nat} (h : bup l k) (hc : l[k]? = some true) : bup l (k + 1) := by
  intro j hj d hd
  rcases Nat.lt_or_ge j k with h1 | h1
  · exact h j h1 d hd
  · obtain rfl : j = k := by omega
    rw [hc] at hd; injection hd with hd; exact hd.symm
theorem bup_all {l : List Bool} (h : bup l l.length) : allB l = true := by
  rw [allB, List.all_eq_true]
  intro x hx
  obtain ⟨j, hj, rfl⟩ := List.mem_iff_getElem.1 hx
  exact h j hj _ (List.getElem?_eq_getElem hj)
theorem bup_not {l : List Bool} {k : Nat} (hc : l[k]? = some false) : allB l = false := by
  rw [allB, List.all_eq_false]
  exact ⟨false, List.mem_of_getElem? hc, by simp⟩
theorem allB_at {l : List Bool} {k : Nat} {b : Bool} (h : allB l = true) (hb : l[k]? = some b) : b = true := by
  rw [allB, List.all_eq_true] at h
  exact h b (List.mem_of_getElem? hb)
theorem allB_iff {l : List Bool} : allB l = true ↔ ∀ (k : Nat) (b : Bool), l[k]? = some b → b = true :=
  ⟨fun h _ _ hb => allB_at h hb, fun h => bup_all fun j _ b hb => h j b hb⟩

/-- What one known letter takes off a letter. -/
def minus1 (c p : Nat) : Nat := if p = 45 then 45 else 97 + (c + 10 - p) % 10
def minusL (c p : List Nat) : List Nat := List.zipWith minus1 c p
def kfOk (c p : List Nat) : Bool := g3 (wv c) (pv p) c.length p.length
/-- What a word with gaps tells about the key. -/
def kf (c p : List Nat) : List Nat := if kfOk c p then minusL c p else []
/-- Two letters or gaps at one place agree. -/
def cmpt (p q : Nat) : Bool := p == 45 || q == 45 || p == q
def sel (p q : Nat) : Nat := if p = 45 then q else p
def mgL (p q : List Nat) : List Nat := List.zipWith sel p q
def mgV (p q : List Nat) : Bool := g3 (pv p) (pv q) p.length q.length
def mgOk (p q : List Nat) : Bool := mgV p q && allB (List.zipWith cmpt p q)
def mg (p q : List Nat) : List Nat := if mgOk p q then mgL p q else []
def fit1 (p c : Nat) : Bool := p == 45 || p == c
def fitV (p w : List Nat) : Bool := g3 (pv p) (wv w) p.length w.length
def fits (p w : List Nat) : Bool := fitV p w && allB (List.zipWith fit1 p w)

theorem mg_no {p q : List Nat} {k : Nat} (h : (List.zipWith cmpt p q)[k]? = some false) : mgOk p q = false ∧ mg p q = [] := by
  have h1 : mgOk p q = false := by rw [mgOk, bup_not h, Bool.and_false]
  exact ⟨h1, by rw [mg, h1]; rfl⟩
theorem mg_yes {p q : List Nat} (hv : mgV p q = true) (h : bup (List.zipWith cmpt p q) (List.zipWith cmpt p q).length) : mgOk p q = true ∧ mg p q = mgL p q := by
  have h1 : mgOk p q = true := by rw [mgOk, hv, bup_all h]; rfl
  exact ⟨h1, by rw [mg, h1]; rfl⟩
theorem fits_no {p q : List Nat} {k : Nat} (h : (List.zipWith fit1 p q)[k]? = some false) : fits p q = false := by rw [fits, bup_not h, Bool.and_false]
theorem fits_yes {p q : List Nat} (hv : fitV p q = true) (h : bup (List.zipWith fit1 p q) (List.zipWith fit1 p q).length) : fits p q = true := by rw [fits, hv, bup_all h]; rfl
theorem mgL_lt {v w : List Nat} (hv : ∀ x ∈ v, x < 256) (hw : ∀ x ∈ w, x < 256) : ∀ x ∈ mgL v w, x < 256 := by
  intro x hx
  obtain ⟨k, hk, rfl⟩ := List.mem_iff_getElem.1 hx
  simp only [mgL, List.getElem_zipWith, sel]
  split
  · exact hw _ (List.getElem_mem _)
  · exact hv _ (List.getElem_mem _)
theorem pv_of {l : List Nat} (h1 : l.length ≤ 200) (h2 : ∀ (k c : Nat), l[k]? = some c → c = 45 ∨ (97 ≤ c ∧ c ≤ 106)) : pv l = true := by
  simp only [pv, Bool.and_eq_true, decide_eq_true_eq]
  refine ⟨h1, List.all_eq_true.2 fun x hx => ?_⟩
  obtain ⟨k, hk, rfl⟩ := List.mem_iff_getElem.1 hx
  have := h2 k _ (List.getElem?_eq_getElem hk)
  simp [isP, isL]; omega
theorem wv_of {l : List Nat} (h1 : l.length ≤ 200) (h2 : ∀ (k c : Nat), l[k]? = some c → 97 ≤ c ∧ c ≤ 106) : wv l = true := by
  simp only [wv, Bool.and_eq_true, decide_eq_true_eq]
  refine ⟨h1, List.all_eq_true.2 fun x hx => ?_⟩
  obtain ⟨k, hk, rfl⟩ := List.mem_iff_getElem.1 hx
  have := h2 k _ (List.getElem?_eq_getElem hk)
  simp [isL]; omega
theorem zipWith_inv {α β γ : Type} {f : α → β → γ} {l : List α} {m : List β} {k : Nat} {x : γ} (h : (List.zipWith f l m)[k]? = some x) : ∃ a b, l[k]? = some a ∧ m[k]? = some b ∧ f a b = x := by
  rw [List.getElem?_zipWith] at h
  split at h
  · rename_i a b ha hb
    exact ⟨a, b, ha, hb, by injection h⟩
  · cases h
theorem minusL_len {c p : List Nat} (h : c.length = p.length) : (minusL c p).length = p.length := by simp [minusL]; omega
theorem pv_minus {c p : List Nat} (hp : pv p = true) : pv (minusL c p) = true := by
  refine pv_of ?_ fun k x hx => ?_
  · have := pv_len hp
    simp [minusL]; omega
  · obtain ⟨a, b, _, _, rfl⟩ := zipWith_inv hx
    unfold minus1
    split <;> omega
theorem kf_again {c p o : List Nat} (h : kfOk c p = true) : kfOk o (minusL c p) = kfOk o p := by
  obtain ⟨h1, h2, h3⟩ := g3_yes h
  unfold kfOk
  rw [pv_minus h2, h2, minusL_len h3]
def rdOk (c p o : List Nat) : Bool := kfOk c p && kfOk o p
def rd (c p o : List Nat) : List Nat := if rdOk c p o then minusL o (minusL c p) else []
end Go.Proofs.Ytilnffidckdadaa
