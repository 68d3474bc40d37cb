/- Plain laws: three words with gaps are merged from either side; words that fit. No condition. -/
import Derived.Test.YtilnffidckdadaaPlain18b
set_option linter.unusedVariables false
namespace Go.Proofs.Ytilnffidckdadaa

theorem mgOk_parts {p q : List Nat} (h : mgOk p q = true) : mgV p q = true ∧ allB (List.zipWith cmpt p q) = true := by
  unfold mgOk at h; rw [Bool.and_eq_true] at h; exact h
theorem mgL_len {p q : List Nat} (h : p.length = q.length) : (mgL p q).length = p.length := by simp [mgL]; omega
theorem pv_mgL {p q : List Nat} (hp : pv p = true) (hq : pv q = true) : pv (mgL p q) = true := by
  refine pv_of ?_ fun k x hx => ?_
  · have := pv_len hp
    simp [mgL]; omega
  · obtain ⟨a, b, ha, hb, rfl⟩ := zipWith_inv hx
    have h1 := pv_at hp ha
    have h2 := pv_at hq hb
    unfold sel
    split <;> omega
theorem mg_ok {p q : List Nat} (h : mgOk p q = true) : mg p q = mgL p q := by rw [mg, h]; rfl
theorem mg_not {p q : List Nat} (h : mgOk p q = false) : mg p q = [] := by rw [mg, h]; rfl
theorem mgOk_pv {p q : List Nat} (h : pv q = false) : mgOk p q = false := by
  unfold mgOk mgV g3; rw [h]; simp
theorem mgOk_len {p q : List Nat} (h : p.length ≠ q.length) : mgOk p q = false := by
  unfold mgOk mgV g3
  have : (p.length == q.length) = false := by simpa using h
  rw [this]; simp
/-- Merging from either side: both fail, or both give the same. -/
theorem three {p q x : List Nat} (h : mgOk p q = true) (hx : x.length = p.length) :
    (mgOk (mgL p q) x = true → mgOk p (mg q x) = true ∧ (mg q x).length = p.length ∧ mg (mgL p q) x = mg p (mg q x)) ∧
    (mgOk (mgL p q) x = false → mgOk p (mg q x) = true → (mg q x).length ≠ p.length) := by
  obtain ⟨hv, hc⟩ := mgOk_parts h
  obtain ⟨hp, hq, hl⟩ := mgV_parts hv
  have hS := pv_mgL hp hq
  have hSl := mgL_len hl
  cases hxv : pv x
  · have h1 := mgOk_pv (p := mgL p q) hxv
    have h2 := mgOk_pv (p := q) hxv
    rw [h1, mg_not h2]
    refine ⟨fun e => (by cases e), fun _ _ e => ?_⟩
    have : x = [] := List.eq_nil_of_length_eq_zero (by rw [hx, ← e]; rfl)
    subst this
    cases hxv
  · have hVS : mgV (mgL p q) x = true := mgV_mk hS hxv (by omega)
    cases hqx : mgOk q x
    · have hVq : mgV q x = true := mgV_mk hq hxv (by omega)
      have hno : allB (List.zipWith cmpt q x) = false := by
        unfold mgOk at hqx; rw [hVq, Bool.true_and] at hqx; exact hqx
      rw [mg_not hqx]
      have hbad : mgOk (mgL p q) x = false := by
        cases hgood : mgOk (mgL p q) x
        · rfl
        · exfalso
          have hg := (mgOk_parts hgood).2
          have : allB (List.zipWith cmpt q x) = true := by
            rw [allB_iff]
            intro k b hb
            obtain ⟨y, z, hy, hz, rfl⟩ := zipWith_inv hb
            obtain ⟨a, ha⟩ : ∃ a, p[k]? = some a := ⟨_, List.getElem?_eq_getElem (by have := (List.getElem?_eq_some_iff.1 hy).1; omega)⟩
            have c1 := allB_at hc (zipWith_at (f := cmpt) ha hy)
            have c2 := allB_at hg (zipWith_at (f := cmpt) (zipWith_at (f := sel) ha hy) hz)
            cases c3 : cmpt y z
            · rw [cmpt_sel_no c1 c3] at c2; cases c2
            · rfl
          rw [this] at hno
          cases hno
      rw [hbad]
      refine ⟨fun e => (by cases e), fun _ _ e => ?_⟩
      have h0 : q = [] := List.eq_nil_of_length_eq_zero (by rw [← hl, ← e]; rfl)
      subst h0
      cases hno
    · have hcq := (mgOk_parts hqx).2
      rw [mg_ok hqx]
      have hRl : (mgL q x).length = p.length := by rw [mgL_len (by omega)]; omega
      have hVp : mgV p (mgL q x) = true := mgV_mk hp (pv_mgL hq hxv) (by omega)
      have hEq : List.zipWith cmpt (mgL p q) x = List.zipWith cmpt p (mgL q x) := by
        refine zipWith_congr2 (by simp [hSl, hRl]; omega) fun k a b c d ha hb hc' hd => ?_
        obtain ⟨y, hy⟩ : ∃ y, q[k]? = some y := ⟨_, List.getElem?_eq_getElem (by have := (List.getElem?_eq_some_iff.1 hc').1; omega)⟩
        have e1 := zipWith_at (f := sel) hc' hy
        have e2 := zipWith_at (f := sel) hy hb
        have e1' : (mgL p q)[k]? = some (sel c y) := e1
        have e2' : (mgL q x)[k]? = some (sel y b) := e2
        rw [ha] at e1'; rw [hd] at e2'
        injection e1' with e1'; injection e2' with e2'
        rw [e1', e2']
        exact cmpt_sel (allB_at hc (zipWith_at (f := cmpt) hc' hy)) (allB_at hcq (zipWith_at (f := cmpt) hy hb))
      have hOk : mgOk (mgL p q) x = mgOk p (mgL q x) := by unfold mgOk; rw [hVS, hVp, hEq]
      refine ⟨fun e => ?_, fun e e2 => ?_⟩
      · refine ⟨by rw [← hOk]; exact e, hRl, ?_⟩
        rw [mg_ok e, mg_ok (hOk ▸ e)]
        refine zipWith_congr2 (by simp [hSl, hRl]; omega) fun k a b c d ha hb hc' hd => ?_
        obtain ⟨y, hy⟩ : ∃ y, q[k]? = some y := ⟨_, List.getElem?_eq_getElem (by have := (List.getElem?_eq_some_iff.1 hc').1; omega)⟩
        have e1' : (mgL p q)[k]? = some (sel c y) := zipWith_at (f := sel) hc' hy
        have e2' : (mgL q x)[k]? = some (sel y b) := zipWith_at (f := sel) hy hb
        rw [ha] at e1'; rw [hd] at e2'
        injection e1' with e1'; injection e2' with e2'
        rw [e1', e2']
        exact sel_assoc _ _ _
      · rw [hOk, e2] at e; cases e

/-- The letters of the first, else of the second, else the filling. -/
def pick3 (p q f : Nat) : Nat := if p ≠ 45 then p else if q ≠ 45 then q else f
theorem fit_first {p q f : Nat} : fit1 p (pick3 p q f) = true := by
  unfold fit1 pick3
  by_cases h : p = 45
  · simp [h]
  · simp [h]
theorem fit_second {p q f : Nat} : fit1 q (pick3 p q f) = cmpt p q := by
  rw [Bool.eq_iff_iff]
  simp only [fit1, pick3, cmpt, Bool.or_eq_true, beq_iff_eq]
  by_cases h : p = 45
  · by_cases h2 : q = 45
    · simp [h, h2]
    · simp [h, h2]
  · simp [h]; omega
theorem fit_sel {p q f : Nat} (h : cmpt p q = true) : fit1 (sel p q) (pick3 p q f) = true := by
  simp [cmpt] at h
  simp only [fit1, pick3, sel, Bool.or_eq_true, beq_iff_eq]
  by_cases h : p = 45
  · by_cases h2 : q = 45
    · simp [h, h2]
    · simp [h, h2]
  · simp [h]
/-- The word that fits two words with gaps. -/
def fillW (p q : List Nat) (m : Nat) : List Nat := (List.range p.length).map fun k => pick3 (p.getD k 0) (q.getD k 0) (97 + (k + m) % 10)
theorem fillW_len (p q : List Nat) (m : Nat) : (fillW p q m).length = p.length := by simp [fillW]
theorem fillW_at {p q : List Nat} {m k a b : Nat} (ha : p[k]? = some a) (hb : q[k]? = some b) : (fillW p q m)[k]? = some (pick3 a b (97 + (k + m) % 10)) := by
  have hk : k < p.length := (List.getElem?_eq_some_iff.1 ha).1
  have e : p[k] = a := by rw [List.getElem?_eq_getElem hk] at ha; injection ha
  simp [fillW, hk, List.getD_eq_getElem?_getD, hb, e]
theorem wv_fillW {p q : List Nat} (m : Nat) (h : mgV p q = true) : wv (fillW p q m) = true := by
  obtain ⟨hp, hq, hl⟩ := mgV_parts h
  refine wv_of (by rw [fillW_len]; exact pv_len hp) fun k c hc => ?_
  have hk : k < p.length := by have := (List.getElem?_eq_some_iff.1 hc).1; rwa [fillW_len] at this
  obtain ⟨a, ha⟩ : ∃ a, p[k]? = some a := ⟨_, List.getElem?_eq_getElem hk⟩
  obtain ⟨b, hb⟩ : ∃ b, q[k]? = some b := ⟨_, List.getElem?_eq_getElem (by omega)⟩
  rw [fillW_at ha hb] at hc
  injection hc with hc
  have h1 := pv_at hp ha
  have h2 := pv_at hq hb
  subst hc
  unfold pick3
  split
  · omega
  · split <;> omega
theorem fits_of {p w : List Nat} (hp : pv p = true) (hw : wv w = true) (hl : p.length = w.length) : fits p w = allB (List.zipWith fit1 p w) := by
  unfold fits fitV g3
  rw [hp, hw, hl]
  simp
theorem fits_p {p q : List Nat} (m : Nat) (h : mgV p q = true) : fits p (fillW p q m) = true := by
  obtain ⟨hp, hq, hl⟩ := mgV_parts h
  rw [fits_of hp (wv_fillW m h) (fillW_len _ _ _).symm, allB_iff]
  intro k b hb
  obtain ⟨x, y, hx, hy, rfl⟩ := zipWith_inv hb
  obtain ⟨z, hz⟩ : ∃ z, q[k]? = some z := ⟨_, List.getElem?_eq_getElem (by have := (List.getElem?_eq_some_iff.1 hx).1; omega)⟩
  rw [fillW_at hx hz] at hy
  injection hy with hy
  subst hy
  exact fit_first
theorem fits_q {p q : List Nat} (m : Nat) (h : mgV p q = true) : fits q (fillW p q m) = mgOk p q := by
  obtain ⟨hp, hq, hl⟩ := mgV_parts h
  rw [fits_of hq (wv_fillW m h) (by rw [fillW_len]; exact hl.symm), mgOk, h, Bool.true_and]
  congr 1
  refine zipWith_congr2 (by simp [fillW_len]; omega) fun k a b c d ha hb hc hd => ?_
  rw [fillW_at hc hd] at hb
  rw [ha] at hd
  injection hb with hb; injection hd with hd
  subst hb; subst hd
  exact fit_second
theorem fits_s {p q : List Nat} (m : Nat) (h : mgOk p q = true) : fits (mgL p q) (fillW p q m) = true := by
  obtain ⟨hv, hc⟩ := mgOk_parts h
  obtain ⟨hp, hq, hl⟩ := mgV_parts hv
  rw [fits_of (pv_mgL hp hq) (wv_fillW m hv) (by rw [fillW_len, mgL_len hl]), allB_iff]
  intro k b hb
  obtain ⟨x, y, hx, hy, rfl⟩ := zipWith_inv hb
  obtain ⟨u, v, hu, hv', rfl⟩ := zipWith_inv hx
  rw [fillW_at hu hv'] at hy
  injection hy with hy
  subst hy
  exact fit_sel (allB_at hc (zipWith_at (f := cmpt) hu hv'))
end Go.Proofs.Ytilnffidckdadaa
