/- Plain laws of the tapes of a machine. No condition. -/
import Derived.Test.YtibjiadgmlpceaaTele5
import Derived.Test.YtibjiadgmlpceaaPlain16
import Derived.Test.YtibjiadgmlpceaaStops
set_option linter.unusedVariables false
namespace Go.Proofs.Ytibjiadgmlpceaa
open Go.RowKit

theorem chi_take (ss : List ByteArray) {n k : Nat} (h : k ≤ n) : (chiL ss n).take k = chiL ss k := by
  unfold chiL
  rw [← List.map_take, List.take_range, Nat.min_eq_left h]
theorem psi_take (ss : List ByteArray) (mo : ByteArray) {n k : Nat} (h : k ≤ n) : (psiL ss mo n).take k = psiL ss mo k := by
  unfold psiL
  rw [← List.map_take, List.take_range, Nat.min_eq_left h]
theorem xorL_take (v w : List Nat) (k : Nat) : (xorL v w).take k = xorL (v.take k) (w.take k) := by
  unfold xorL
  exact List.take_zipWith
theorem xorL_comm (v w : List Nat) : xorL v w = xorL w v := by
  unfold xorL
  rw [List.zipWith_comm]
  congr 1
  funext a b
  exact xor1_comm b a
theorem tfit_less {chi psi : List ByteArray} {mo : ByteArray} {n k : Nat} (h : tfit chi psi mo (n : Int) = true) (hk : k ≤ n) : tfit chi psi mo (k : Int) = true := by
  simp only [tfit, Bool.and_eq_true, decide_eq_true_eq] at h ⊢
  exact ⟨h.1, by omega, by omega⟩
theorem tfit_mk {chi psi : List ByteArray} {mo : ByteArray} {n : Nat} (h1 : wheels3 chi = true) (h2 : wheels3 psi = true) (h3 : wheel (nb mo) = true) (hn : n ≤ 200) : tfit chi psi mo (n : Int) = true := by
  simp only [tfit, tvld, h1, h2, h3, Bool.and_self, Bool.true_and, decide_eq_true_eq]
  omega
theorem ct_of {chi psi : List ByteArray} {mo : ByteArray} {n : Nat} (h : tfit chi psi mo (n : Int) = true) : ct chi psi mo (n : Int) = chiL chi n := by rw [ct, h]; rfl
theorem pt_of {chi psi : List ByteArray} {mo : ByteArray} {n : Nat} (h : tfit chi psi mo (n : Int) = true) : pt chi psi mo (n : Int) = psiL psi mo n := by rw [pt, h]; rfl
theorem tk_of {chi psi : List ByteArray} {mo : ByteArray} {n : Nat} (h : tfit chi psi mo (n : Int) = true) : tk chi psi mo (n : Int) = xorL (chiL chi n) (psiL psi mo n) := by rw [tk, h]; rfl
theorem ms_of {chi psi : List ByteArray} {mo : ByteArray} {n : Nat} (h : tfit chi psi mo (n : Int) = true) : ms chi psi mo (n : Int) = stopsL mo (n - 1) := by rw [ms, h]; rfl
theorem tk_lenE {chi psi : List ByteArray} {mo : ByteArray} {n : Nat} (h : tfit chi psi mo (n : Int) = true) : (tk chi psi mo (n : Int)).length = n := by
  rw [tk_of h, xorL_len (by rw [chiL_len, psiL_len]), chiL_len]
theorem tv_tk {chi psi : List ByteArray} {mo : ByteArray} {n : Nat} (h : tfit chi psi mo (n : Int) = true) : tv (tk chi psi mo (n : Int)) = true := by
  obtain ⟨h1, h2, h3, h4, h5⟩ := tk_facts h
  rw [tk_of h]
  exact tv_xor (xtOk_of h1 h2 h3)
theorem tk_take {chi psi : List ByteArray} {mo : ByteArray} {n k : Nat} (h : tfit chi psi mo (n : Int) = true) (hk : k ≤ n) : (tk chi psi mo (n : Int)).take k = tk chi psi mo (k : Int) := by
  rw [tk_of h, tk_of (tfit_less h hk), xorL_take, chi_take _ hk, psi_take _ _ hk]
theorem stops_mem {mo : ByteArray} {n : Nat} {z : Int} (h : z ∈ stopsL mo n) : ∃ j : Nat, z = (j : Int) ∧ j < n ∧ bitAt mo j = 0 := by
  simp only [stopsL, List.mem_map, List.mem_filter, List.mem_range, beq_iff_eq] at h
  obtain ⟨j, ⟨h1, h2⟩, h3⟩ := h
  exact ⟨j, h3.symm, h1, h2⟩
theorem steps_stop {mo : ByteArray} {j : Nat} (h : bitAt mo j = 0) : steps mo (j + 1) = steps mo j := by
  show steps mo j + bitAt mo j = _
  rw [h]; rfl
theorem psi_stop {ss : List ByteArray} {mo : ByteArray} {n j : Nat} (hj : j + 1 < n) (h : bitAt mo j = 0) : (psiL ss mo n)[j]? = (psiL ss mo n)[j + 1]? := by
  rw [psiL_at _ _ _ _ hj, psiL_at _ _ _ _ (by omega), steps_stop h]
theorem key_stop {chi psi : List ByteArray} {mo : ByteArray} {n j : Nat} (h : tfit chi psi mo (n : Int) = true) (hj : j + 1 < n) (hb : bitAt mo j = 0) : ∃ x, (deltaL (tk chi psi mo (n : Int)))[j]? = some x ∧ (deltaL (chiL chi n))[j]? = some x := by
  have e1 := chiL_at chi n j (by omega)
  have e2 := chiL_at chi n (j + 1) hj
  have p1 := psiL_at psi mo n j (by omega)
  have p2 := psiL_at psi mo n (j + 1) hj
  rw [steps_stop hb] at p2
  rw [tk_of h]
  refine ⟨_, deltaL_at (zipWith_at (f := xor1) e1 p1) (zipWith_at (f := xor1) e2 p2), ?_⟩
  rw [deltaL_at e1 e2, xor1_mid, xor1_self, xor1_zero (by unfold xor1; omega)]
theorem steps_zero {mo : ByteArray} (h : ∀ i, bitAt mo i = 0) (k : Nat) : steps mo k = 0 := by
  induction k with
  | zero => rfl
  | succ k ih => rw [steps_stop (h k), ih]
theorem steps_one {mo : ByteArray} (h : ∀ i, bitAt mo i = 1) (k : Nat) : steps mo k = k := by
  induction k with
  | zero => rfl
  | succ k ih => show steps mo k + bitAt mo k = _; rw [h k, ih]
theorem psi_still {mo : ByteArray} (h : ∀ i, bitAt mo i = 0) (ss : List ByteArray) (n : Nat) : psiL ss mo n = List.replicate n (l3 ss 0) := by
  unfold psiL
  rw [List.eq_replicate_iff]
  refine ⟨by simp, fun b hb => ?_⟩
  simp only [List.mem_map] at hb
  obtain ⟨i, _, rfl⟩ := hb
  rw [steps_zero h]
theorem psi_free {mo : ByteArray} (h : ∀ i, bitAt mo i = 1) (ss : List ByteArray) (n : Nat) : psiL ss mo n = chiL ss n := by
  unfold psiL chiL
  apply List.map_congr_left
  intro i _
  rw [steps_one h]
/-- The motors of the law. -/
def mo00 : ByteArray := ⟨#[48, 48]⟩
def mo11 : ByteArray := ⟨#[49, 49]⟩
theorem bit00 (i : Nat) : bitAt mo00 i = 0 := by
  have : i % 2 = 0 ∨ i % 2 = 1 := by omega
  show ([48, 48] : List Nat).getD (i % 2) 48 - 48 = 0
  rcases this with h | h <;> rw [h] <;> rfl
theorem bit11 (i : Nat) : bitAt mo11 i = 1 := by
  have : i % 2 = 0 ∨ i % 2 = 1 := by omega
  show ([49, 49] : List Nat).getD (i % 2) 48 - 48 = 1
  rcases this with h | h <;> rw [h] <;> rfl
theorem wheel00 : wheel (nb mo00) = true := by decide
theorem wheel11 : wheel (nb mo11) = true := by decide
theorem motorless {chi psi : List ByteArray} (h1 : wheels3 chi = true) (h2 : wheels3 psi = true) {n : Nat} (hn : n ≤ 200) : dt (tk chi psi mo00 (n : Int)) = dt (chiL chi n) := by
  have hf := tfit_mk h1 h2 wheel00 hn
  rw [dt, tv_tk hf, dt, tv_chi h1 hn, if_pos rfl, if_pos rfl, tk_of hf, psi_still bit00]
  have := delta_all (chiL chi n) (tv_chi h1 hn) (l3 psi 0)
  rwa [chiL_len] at this
theorem motorfree {chi psi : List ByteArray} (h1 : wheels3 chi = true) (h2 : wheels3 psi = true) {n : Nat} (hn : n ≤ 200) : tk chi psi mo11 (n : Int) = tk psi chi mo11 (n : Int) := by
  rw [tk_of (tfit_mk h1 h2 wheel11 hn), tk_of (tfit_mk h2 h1 wheel11 hn), psi_free bit11, psi_free bit11, xorL_comm]
theorem teOk_of (chi psi : List ByteArray) (mo : ByteArray) (l : List Nat) : teOk chi psi mo l = (tvld chi psi mo && tv l) := by
  unfold teOk
  cases hf : tfit chi psi mo (l.length : Int)
  · cases hv : tvld chi psi mo
    · rfl
    · cases ht : tv l
      · rfl
      · have := tv_len ht
        simp only [tfit, hv, Bool.true_and, decide_eq_false_iff_not] at hf
        omega
  · have hv : tvld chi psi mo = true := by simp only [tfit, Bool.and_eq_true] at hf; exact hf.1
    rw [hv]
    unfold xtOk g3
    rw [tv_tk hf, tk_lenE hf]
    simp
theorem te_fit {chi psi : List ByteArray} {mo : ByteArray} {l : List Nat} (h : teOk chi psi mo l = true) : tfit chi psi mo (l.length : Int) = true ∧ tv l = true ∧ te chi psi mo l = xorL l (tk chi psi mo (l.length : Int)) := by
  unfold teOk at h
  rw [Bool.and_eq_true] at h
  obtain ⟨h1, h2, h3⟩ := g3_yes h.2
  refine ⟨h.1, h1, ?_⟩
  rw [te, h.1, if_pos rfl, xt_of h1 h2 h3]
theorem te_len {chi psi : List ByteArray} {mo : ByteArray} {l : List Nat} (h : teOk chi psi mo l = true) : (te chi psi mo l).length = l.length := by
  obtain ⟨h1, h2, h3⟩ := te_fit h
  rw [h3, xorL_len (tk_lenE h1).symm]
theorem te_tv {chi psi : List ByteArray} {mo : ByteArray} {l : List Nat} (h : teOk chi psi mo l = true) : tv (te chi psi mo l) = true := by
  obtain ⟨h1, h2, h3⟩ := te_fit h
  rw [h3]
  exact tv_xor (xtOk_of h2 (tv_tk h1) (tk_lenE h1).symm)
theorem te_bad {chi psi : List ByteArray} {mo : ByteArray} {l : List Nat} (h : teOk chi psi mo l = false) : te chi psi mo l = [] := by
  unfold te
  unfold teOk at h
  cases hf : tfit chi psi mo (l.length : Int)
  · rfl
  · rw [hf, Bool.true_and] at h
    rw [if_pos rfl, xt, h]
    rfl
theorem te_le (chi psi : List ByteArray) (mo : ByteArray) (l : List Nat) : (te chi psi mo l).length ≤ 200 := by
  cases h : teOk chi psi mo l
  · rw [te_bad h]; simp
  · rw [te_len h]; exact tv_len (te_fit h).2.1
theorem tk_le (chi psi : List ByteArray) (mo : ByteArray) (z : Int) : (tk chi psi mo z).length ≤ 200 := by
  cases h : tfit chi psi mo z
  · rw [tk, h]; simp
  · exact tk_len h
theorem ct_le (chi psi : List ByteArray) (mo : ByteArray) (z : Int) : (ct chi psi mo z).length ≤ 200 := by
  cases h : tfit chi psi mo z
  · rw [ct, h]; simp
  · obtain ⟨_, _, _, n, rfl, hn⟩ := tfit_yes h
    rw [ct_of h, chiL_len]; exact hn
theorem pt_le (chi psi : List ByteArray) (mo : ByteArray) (z : Int) : (pt chi psi mo z).length ≤ 200 := by
  cases h : tfit chi psi mo z
  · rw [pt, h]; simp
  · obtain ⟨_, _, _, n, rfl, hn⟩ := tfit_yes h
    rw [pt_of h, psiL_len]; exact hn
theorem tv_take {l : List Nat} (h : tv l = true) (k : Nat) : tv (l.take k) = true := by
  refine tv_mk (by rw [List.length_take]; have := tv_len h; omega) fun j c hc => ?_
  rw [List.getElem?_take] at hc
  split at hc
  · exact tv_at h hc
  · cases hc
theorem te_takeOk {chi psi : List ByteArray} {mo : ByteArray} {l : List Nat} (h : teOk chi psi mo l = true) (k : Nat) : teOk chi psi mo (l.take k) = true := by
  rw [teOk_of, Bool.and_eq_true] at h ⊢
  exact ⟨h.1, tv_take h.2 k⟩
theorem te_take {chi psi : List ByteArray} {mo : ByteArray} {l : List Nat} (h : teOk chi psi mo l = true) {k : Nat} (hk : k ≤ l.length) : te chi psi mo (l.take k) = (te chi psi mo l).take k := by
  obtain ⟨h1, h2, h3⟩ := te_fit h
  obtain ⟨k1, k2, k3⟩ := te_fit (te_takeOk h k)
  have e : (l.take k).length = k := by rw [List.length_take]; omega
  rw [k3, h3, xorL_take, tk_take h1 hk, e]
/-- The sum of two enciphered tapes. -/
theorem te_depth {chi psi : List ByteArray} {mo : ByteArray} {v w : List Nat} (hv : teOk chi psi mo v = true) (hw : teOk chi psi mo w = true) (hl : v.length = w.length) : xt (te chi psi mo v) (te chi psi mo w) = xt v w := by
  obtain ⟨h1, h2, h3⟩ := te_fit hv
  obtain ⟨k1, k2, k3⟩ := te_fit hw
  rw [xt_of (te_tv hv) (te_tv hw) (by rw [te_len hv, te_len hw, hl]), xt_of h2 k2 hl, h3, k3, hl]
  have hk := tk_lenE k1
  refine xorL_ex _ _ _ (by rw [xorL_len (by omega), xorL_len hl]) (by rw [xorL_len (by omega), xorL_len (by omega)]; exact hl) fun k x y hx hy => ?_
  obtain ⟨a, b, ha, hb, rfl⟩ := xorL_get hx
  obtain ⟨c, d, hc, hd, rfl⟩ := xorL_get hy
  rw [hb] at hd
  injection hd with hd
  subst hd
  rw [xor1_mid, xor1_self, xor1_zero (by unfold xor1; omega)]
  exact zipWith_at (f := xor1) ha hc
theorem te_twiceOk {chi psi : List ByteArray} {mo : ByteArray} {l : List Nat} (h : teOk chi psi mo l = true) : teOk chi psi mo (te chi psi mo l) = true := by
  have ht := te_tv h
  rw [teOk_of, Bool.and_eq_true] at h ⊢
  exact ⟨h.1, ht⟩
theorem te_twice {chi psi : List ByteArray} {mo : ByteArray} {l : List Nat} (h : teOk chi psi mo l = true) : te chi psi mo (te chi psi mo l) = l := by
  obtain ⟨h1, h2, h3⟩ := te_fit h
  have e := te_len h
  obtain ⟨k1, k2, k3⟩ := te_fit (te_twiceOk h)
  rw [k3, e]
  rw [h3]
  have hk := tk_lenE h1
  rw [xorL_assoc hk.symm rfl, xorL_self, hk]
  exact xorL_zero h2
theorem te_sum {chi psi : List ByteArray} {mo : ByteArray} {l : List Nat} (h : teOk chi psi mo l = true) : xt (te chi psi mo l) l = tk chi psi mo (l.length : Int) := by
  obtain ⟨h1, h2, h3⟩ := te_fit h
  have hk := tk_lenE h1
  rw [xt_of (te_tv h) h2 (te_len h), h3, xorL_comm, ← xorL_assoc rfl hk.symm, xorL_self, xorL_comm]
  have := xorL_zero (tv_tk h1)
  rwa [hk] at this
end Go.Proofs.Ytibjiadgmlpceaa
