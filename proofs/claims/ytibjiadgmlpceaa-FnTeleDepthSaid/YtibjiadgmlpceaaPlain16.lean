/- Plain laws of tapes. No condition. -/
import Derived.Test.YtibjiadgmlpceaaTape2
set_option linter.unusedVariables false
namespace Go.Proofs.Ytibjiadgmlpceaa
open Go.RowKit

theorem xor1_sub (c d : Nat) : xor1 c d - 97 = (c - 97) ^^^ (d - 97) := by unfold xor1; omega
theorem xor1_comm (a b : Nat) : xor1 a b = xor1 b a := by unfold xor1; rw [Nat.xor_comm]
theorem xor1_assoc (a b c : Nat) : xor1 (xor1 a b) c = xor1 a (xor1 b c) := by
  unfold xor1
  rw [Nat.add_sub_cancel_left, Nat.add_sub_cancel_left, Nat.xor_assoc]
theorem xor1_mid (a b c d : Nat) : xor1 (xor1 a b) (xor1 c d) = xor1 (xor1 a c) (xor1 b d) := by
  rw [xor1_assoc, xor1_assoc, ← xor1_assoc b c d, xor1_comm b c, xor1_assoc]
theorem xor1_self (a : Nat) : xor1 a a = 97 := by unfold xor1; rw [Nat.xor_self]
theorem xor1_zero {a : Nat} (h : 97 ≤ a) : xor1 a 97 = a := by unfold xor1; rw [Nat.sub_self, Nat.xor_zero]; omega
theorem xor1_eq {a b : Nat} (ha : 97 ≤ a) (hb : 97 ≤ b) (h : xor1 a b = 97) : a = b := by
  have h1 : xor1 (xor1 a b) b = b := by rw [h, xor1_comm, xor1_zero hb]
  rw [xor1_assoc, xor1_self, xor1_zero ha] at h1
  exact h1
theorem xorL_get {v w : List Nat} {k x : Nat} (h : (xorL v w)[k]? = some x) : ∃ a b, v[k]? = some a ∧ w[k]? = some b ∧ x = xor1 a b := by
  have hk := (List.getElem?_eq_some_iff.1 h).1
  have hl : k < v.length ∧ k < w.length := by simp [xorL] at hk; omega
  refine ⟨v[k], w[k], List.getElem?_eq_getElem hl.1, List.getElem?_eq_getElem hl.2, ?_⟩
  have := zipWith_at (f := xor1) (List.getElem?_eq_getElem hl.1) (List.getElem?_eq_getElem hl.2)
  unfold xorL at h
  rw [this] at h
  injection h with h
  exact h.symm
theorem xorL_ex (v w u : List Nat) (hl : v.length = u.length) (hl2 : v.length = w.length) (h : ∀ (k a b : Nat), v[k]? = some a → w[k]? = some b → u[k]? = some (xor1 a b)) : xorL v w = u := by
  apply List.ext_getElem (by rw [xorL_len hl2, hl])
  intro k h1 h2
  have hv : k < v.length := by omega
  have hw : k < w.length := by omega
  have := h k _ _ (List.getElem?_eq_getElem hv) (List.getElem?_eq_getElem hw)
  rw [List.getElem?_eq_getElem h2] at this
  injection this with this
  rw [this]
  simp [xorL]
theorem xorL_assoc {v w u : List Nat} (h1 : v.length = w.length) (h2 : w.length = u.length) : xorL (xorL v w) u = xorL v (xorL w u) := by
  refine xorL_ex _ _ _ (by rw [xorL_len h1, xorL_len (by rw [xorL_len h2]; exact h1)]) (by rw [xorL_len h1]; omega) ?_
  intro k x c hx hc
  obtain ⟨a, b, ha, hb, rfl⟩ := xorL_get hx
  rw [xor1_assoc]
  exact zipWith_at (f := xor1) ha (zipWith_at (f := xor1) hb hc)
theorem xorL_zero {v : List Nat} (h : tv v = true) : xorL v (List.replicate v.length 97) = v := by
  refine xorL_ex _ _ _ rfl (by simp) ?_
  intro k a b ha hb
  have hb' : b = 97 := List.eq_of_mem_replicate (List.mem_of_getElem? hb)
  rw [hb', xor1_zero (tv_at h ha).1]
  exact ha
theorem xorL_self (v : List Nat) : xorL v v = List.replicate v.length 97 := by
  refine xorL_ex _ _ _ (by simp) rfl ?_
  intro k a b ha hb
  rw [ha] at hb
  injection hb with hb
  rw [← hb, xor1_self]
  have hk := (List.getElem?_eq_some_iff.1 ha).1
  simp [hk]
theorem xorL_eq {v w : List Nat} (hv : tv v = true) (hw : tv w = true) (hl : v.length = w.length) (h : xorL v w = List.replicate v.length 97) : v = w := by
  apply List.ext_getElem hl
  intro k h1 h2
  have e : (xorL v w)[k]? = some (xor1 v[k] w[k]) := zipWith_at (f := xor1) (List.getElem?_eq_getElem h1) (List.getElem?_eq_getElem h2)
  rw [h] at e
  have e2 : xor1 v[k] w[k] = 97 := List.eq_of_mem_replicate (List.mem_of_getElem? e)
  exact xor1_eq (tv_at hv (List.getElem?_eq_getElem h1)).1 (tv_at hw (List.getElem?_eq_getElem h2)).1 e2
theorem tv_xor {v w : List Nat} (h : xtOk v w = true) : tv (xorL v w) = true := by
  obtain ⟨h1, h2, h3⟩ := g3_yes h
  refine tv_mk (by rw [xorL_len h3]; exact tv_len h1) ?_
  intro k x hx
  obtain ⟨a, b, ha, hb, rfl⟩ := xorL_get hx
  exact xor1_bd (tv_at h1 ha).1 (tv_at h1 ha).2 (tv_at h2 hb).1 (tv_at h2 hb).2
theorem tv_all {n x : Nat} (h : n ≤ 200) (h1 : 97 ≤ x) (h2 : x ≤ 104) : tv (List.replicate n x) = true := by
  refine tv_mk (by simpa using h) ?_
  intro k c hc
  rw [List.eq_of_mem_replicate (List.mem_of_getElem? hc)]
  exact ⟨h1, h2⟩
theorem tv_rev {l : List Nat} (h : tv l = true) : tv l.reverse = true := by
  unfold tv at h ⊢
  rw [List.length_reverse, List.all_reverse]
  exact h
theorem xtOk_of {v w : List Nat} (hv : tv v = true) (hw : tv w = true) (h : v.length = w.length) : xtOk v w = true := by
  unfold xtOk g3
  rw [hv, hw, h]
  simp
theorem xt_of {v w : List Nat} (hv : tv v = true) (hw : tv w = true) (h : v.length = w.length) : xt v w = xorL v w := by
  rw [xt, xtOk_of hv hw h]; rfl
theorem deltaL_get {l : List Nat} {k x : Nat} (h : (deltaL l)[k]? = some x) : ∃ a b, l[k]? = some a ∧ l[k + 1]? = some b ∧ x = xor1 a b := by
  have hk := (List.getElem?_eq_some_iff.1 h).1
  rw [deltaL_len] at hk
  obtain ⟨a, ha⟩ := get_some l k (by omega)
  obtain ⟨b, hb⟩ := get_some l (k + 1) (by omega)
  rw [deltaL_at ha hb] at h
  injection h with h
  exact ⟨a, b, ha, hb, h.symm⟩
theorem deltaL_ex (l u : List Nat) (hl : u.length = l.length - 1) (h : ∀ (k a b : Nat), l[k]? = some a → l[k + 1]? = some b → u[k]? = some (xor1 a b)) : deltaL l = u := by
  apply List.ext_getElem (by rw [deltaL_len, hl])
  intro k h1 h2
  obtain ⟨a, b, ha, hb, hx⟩ := deltaL_get (List.getElem?_eq_getElem h1)
  have := h k a b ha hb
  rw [List.getElem?_eq_getElem h2] at this
  injection this with this
  rw [this, hx]
theorem tv_delta {l : List Nat} (h : tv l = true) : tv (deltaL l) = true := by
  refine tv_mk (by rw [deltaL_len]; have := tv_len h; omega) ?_
  intro k x hx
  obtain ⟨a, b, ha, hb, rfl⟩ := deltaL_get hx
  exact xor1_bd (tv_at h ha).1 (tv_at h ha).2 (tv_at h hb).1 (tv_at h hb).2
theorem delta_xor {v w : List Nat} (h : v.length = w.length) : deltaL (xorL v w) = xorL (deltaL v) (deltaL w) := by
  have hd : (deltaL v).length = (deltaL w).length := by rw [deltaL_len, deltaL_len, h]
  refine deltaL_ex _ _ (by rw [xorL_len hd, deltaL_len, xorL_len h]) ?_
  intro k x y hx hy
  obtain ⟨a, b, ha, hb, rfl⟩ := xorL_get hx
  obtain ⟨c, d, hc, hd, rfl⟩ := xorL_get hy
  rw [xor1_mid]
  exact zipWith_at (f := xor1) (deltaL_at ha hc) (deltaL_at hb hd)
theorem delta_all (v : List Nat) (hv : tv v = true) (x : Nat) : deltaL (xorL v (List.replicate v.length x)) = deltaL v := by
  refine deltaL_ex _ _ (by rw [deltaL_len, xorL_len (by simp)]) ?_
  intro k p q hp hq
  obtain ⟨a, b, ha, hb, rfl⟩ := xorL_get hp
  obtain ⟨c, d, hc, hd, rfl⟩ := xorL_get hq
  rw [List.eq_of_mem_replicate (List.mem_of_getElem? hb), List.eq_of_mem_replicate (List.mem_of_getElem? hd), xor1_mid, xor1_self, xor1_zero (by unfold xor1; omega)]
  exact deltaL_at ha hc
theorem delta_rev (v : List Nat) : deltaL v.reverse = (deltaL v).reverse := by
  refine deltaL_ex _ _ (by rw [List.length_reverse, deltaL_len, List.length_reverse]) ?_
  intro k a b ha hb
  have hk : k + 1 < v.length := by simpa using (List.getElem?_eq_some_iff.1 hb).1
  rw [List.getElem?_reverse (by omega)] at ha
  rw [List.getElem?_reverse (by omega)] at hb
  rw [List.getElem?_reverse (by rw [deltaL_len]; omega), deltaL_len, xor1_comm]
  refine deltaL_at ?_ ?_
  · rw [← hb]; congr 1; omega
  · rw [← ha]; congr 1; omega
end Go.Proofs.Ytibjiadgmlpceaa
