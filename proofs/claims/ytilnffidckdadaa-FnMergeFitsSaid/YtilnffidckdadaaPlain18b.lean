/- Plain laws on merging words with gaps. No condition. -/
import Derived.Test.YtilnffidckdadaaPlain18
set_option linter.unusedVariables false
namespace Go.Proofs.Ytilnffidckdadaa

theorem zipWith_congr2 {α β γ δ ε : Type} {f : α → β → γ} {g : δ → ε → γ} {l : List α} {m : List β} {l' : List δ} {m' : List ε} (hl : (List.zipWith f l m).length = (List.zipWith g l' m').length)
    (h : ∀ (k : Nat) (a : α) (b : β) (c : δ) (d : ε), l[k]? = some a → m[k]? = some b → l'[k]? = some c → m'[k]? = some d → f a b = g c d) : List.zipWith f l m = List.zipWith g l' m' := by
  apply List.ext_getElem hl
  intro k h1 h2
  simp only [List.length_zipWith] at h1 h2
  simp only [List.getElem_zipWith]
  exact h k _ _ _ _ (List.getElem?_eq_getElem (by omega)) (List.getElem?_eq_getElem (by omega)) (List.getElem?_eq_getElem (by omega)) (List.getElem?_eq_getElem (by omega))
theorem cmpt_comm (p q : Nat) : cmpt p q = cmpt q p := by
  rw [Bool.eq_iff_iff]; simp [cmpt]; omega
theorem sel_comm {p q : Nat} (h : cmpt p q = true) : sel p q = sel q p := by
  simp [cmpt] at h
  unfold sel
  split <;> split <;> omega
theorem sel_assoc (p q x : Nat) : sel (sel p q) x = sel p (sel q x) := by
  unfold sel
  by_cases h : p = 45
  · simp [h]
  · simp [h]
theorem cmpt_sel {p q x : Nat} (h1 : cmpt p q = true) (h2 : cmpt q x = true) : cmpt (sel p q) x = cmpt p (sel q x) := by
  rw [Bool.eq_iff_iff]
  simp [cmpt, sel] at *
  split <;> split <;> omega
theorem cmpt_sel_no {p q x : Nat} (h1 : cmpt p q = true) (h2 : cmpt q x = false) : cmpt (sel p q) x = false := by
  rw [← Bool.not_eq_true] at *
  simp [cmpt, sel] at *
  split <;> omega
theorem mgV_parts {p q : List Nat} (h : mgV p q = true) : pv p = true ∧ pv q = true ∧ p.length = q.length := g3_yes h
theorem mgV_mk {p q : List Nat} (h1 : pv p = true) (h2 : pv q = true) (h3 : p.length = q.length) : mgV p q = true := by
  unfold mgV g3; rw [h1, h2, h3]; simp
theorem mgV_comm (p q : List Nat) : mgV q p = mgV p q := by
  unfold mgV g3
  rw [Bool.eq_iff_iff]
  simp only [Bool.and_eq_true, beq_iff_eq]
  constructor <;> rintro ⟨⟨h1, h2⟩, h3⟩ <;> exact ⟨⟨h2, h1⟩, h3.symm⟩
theorem mgOk_comm (p q : List Nat) : mgOk q p = mgOk p q := by
  unfold mgOk
  rw [mgV_comm]
  congr 2
  refine zipWith_congr2 (by simp [Nat.min_comm]) fun k a b c d ha hb hc hd => ?_
  rw [ha] at hd; rw [hb] at hc
  injection hd with hd; injection hc with hc
  subst hd; subst hc
  exact cmpt_comm _ _
theorem mg_comm (p q : List Nat) : mg q p = mg p q := by
  unfold mg
  rw [mgOk_comm]
  cases h : mgOk p q
  · rfl
  · rw [if_pos rfl, if_pos rfl]
    unfold mgOk at h
    rw [Bool.and_eq_true] at h
    unfold mgL
    refine zipWith_congr2 (by simp [Nat.min_comm]) fun k a b c d ha hb hc hd => ?_
    have h1 := allB_at h.2 (zipWith_at (f := cmpt) hc hd)
    rw [ha] at hd; rw [hb] at hc
    injection hd with hd; injection hc with hc
    subst hd; subst hc
    exact (sel_comm h1).symm
theorem mgOk_self (p : List Nat) : mgOk p p = pv p := by
  unfold mgOk
  cases h : pv p
  · rw [mgV, g3, h]; rfl
  · rw [mgV_mk h h rfl, Bool.true_and, allB_iff]
    intro k b hb
    obtain ⟨x, y, hx, hy, rfl⟩ := zipWith_inv hb
    rw [hx] at hy; injection hy with hy; subst hy
    simp [cmpt]
theorem mg_self {p : List Nat} (h : pv p = true) : mg p p = p := by
  unfold mg
  rw [mgOk_self, h, if_pos rfl]
  unfold mgL
  apply List.ext_getElem (by simp)
  intro k h1 h2
  simp [sel]
end Go.Proofs.Ytilnffidckdadaa
