/- Plain laws of the repetitions of an order of places. No condition. -/
import Derived.Test.YtofnknfoblkcfaaPlainJ
set_option linter.unusedVariables false
namespace Go.Proofs.Ytofnknfoblkcfaa

/-- From a place to the next. -/
def nx (zs : List Int) (i : Nat) : Nat := (zs.getD i 0).toNat
def itr (zs : List Int) : Nat → Nat → Nat
  | 0, i => i
  | k + 1, i => nx zs (itr zs k i)
section
variable {zs : List Int} (h : plv zs = true)
include h
theorem nx_at {i : Nat} (hi : i < zs.length) : zs[i]? = some ((nx zs i : Nat) : Int) ∧ nx zs i < zs.length := by
  obtain ⟨z, hz, hl⟩ := plv_nat h hi
  have e : nx zs i = z := by rw [nx, List.getD_eq_getElem?_getD, hz]; simp
  rw [e]
  exact ⟨hz, hl⟩
theorem nx_inj {i j : Nat} (hi : i < zs.length) (hj : j < zs.length) (e : nx zs i = nx zs j) : i = j := by
  have h1 := (nx_at h hi).1
  have h2 := (nx_at h hj).1
  rw [e] at h1
  exact plv_inj h h1 h2
theorem itr_lt {i : Nat} (hi : i < zs.length) : ∀ k, itr zs k i < zs.length
  | 0 => hi
  | k + 1 => (nx_at h (itr_lt hi k)).2
omit h in
theorem itr_add (a b i : Nat) : itr zs (a + b) i = itr zs a (itr zs b i) := by
  induction a with
  | zero => rw [Nat.zero_add]; rfl
  | succ a ih => rw [Nat.succ_add]; show nx zs _ = nx zs _; rw [ih]
theorem itr_inj {i j : Nat} (hi : i < zs.length) (hj : j < zs.length) : ∀ k, itr zs k i = itr zs k j → i = j
  | 0, e => e
  | k + 1, e => itr_inj hi hj k (nx_inj h (itr_lt h hi k) (itr_lt h hj k) e)
omit h in
theorem short_of_nodup {l : List Nat} {n : Nat} (hd : l.Nodup) (hl : ∀ x ∈ l, x < n) : l.length ≤ n := by
  rcases Nat.lt_or_ge n l.length with h1 | h1
  · have := (perm_of_sub l (List.range n) hd (fun x hx => List.mem_range.2 (hl x hx)) (by simp; omega)).length_eq
    simp at this
    omega
  · exact h1
theorem itr_back {i a b : Nat} (hi : i < zs.length) (hab : a ≤ b) (e : itr zs a i = itr zs b i) : itr zs (b - a) i = i := by
  have : itr zs b i = itr zs a (itr zs (b - a) i) := by rw [← itr_add]; congr 1; omega
  rw [this] at e
  exact (itr_inj h hi (itr_lt h hi _) a e).symm
/-- Some repetition leads back. -/
theorem itr_returns {i : Nat} (hi : i < zs.length) : ∃ k, k < zs.length ∧ itr zs (k + 1) i = i := by
  apply Classical.byContradiction
  intro hno
  have hno' : ∀ k, k < zs.length → itr zs (k + 1) i ≠ i := fun k hk e => hno ⟨k, hk, e⟩
  have hd : ((List.range (zs.length + 1)).map fun k => itr zs k i).Nodup := by
    show List.Pairwise _ _
    rw [List.pairwise_map]
    refine List.Pairwise.imp_of_mem ?_ List.pairwise_lt_range
    intro a b ha hb hab e
    have := itr_back h hi (Nat.le_of_lt hab) e
    have hb' := List.mem_range.1 hb
    refine hno' (b - a - 1) (by omega) ?_
    rw [show b - a - 1 + 1 = b - a by omega]
    exact this
  have := short_of_nodup (n := zs.length) hd (by
    intro x hx
    simp only [List.mem_map] at hx
    obtain ⟨k, _, rfl⟩ := hx
    exact itr_lt h hi k)
  simp at this
  omega
/-- After how many repetitions a place comes back. -/
def cyc (zs : List Int) (i : Nat) : Nat := ((List.range zs.length).find? fun k => itr zs (k + 1) i == i).getD 0 + 1
theorem cyc_spec {i : Nat} (hi : i < zs.length) : cyc zs i ≤ zs.length ∧ itr zs (cyc zs i) i = i ∧ ∀ k, 1 ≤ k → k < cyc zs i → itr zs k i ≠ i := by
  cases hf : (List.range zs.length).find? fun k => itr zs (k + 1) i == i with
  | none =>
    obtain ⟨k, hk, e⟩ := itr_returns h hi
    rw [List.find?_eq_none] at hf
    exact absurd (by simpa using e) (hf k (List.mem_range.2 hk))
  | some c =>
    have hc : cyc zs i = c + 1 := by rw [cyc, hf]; rfl
    rw [List.find?_range_eq_some] at hf
    obtain ⟨h1, h2, h3⟩ := hf
    rw [hc]
    refine ⟨by have := List.mem_range.1 h2; omega, by simpa using h1, fun k hk1 hk2 e => ?_⟩
    have := h3 (k - 1) (by omega)
    rw [show k - 1 + 1 = k by omega] at this
    simp [e] at this
omit h in
theorem cyc_pos (i : Nat) : 1 ≤ cyc zs i := Nat.succ_le_succ (Nat.zero_le _)
theorem itr_mul {i : Nat} (hi : i < zs.length) (q : Nat) : itr zs (cyc zs i * q) i = i := by
  induction q with
  | zero => rfl
  | succ q ih => rw [Nat.mul_succ, itr_add, (cyc_spec h hi).2.1, ih]
theorem itr_mod {i : Nat} (hi : i < zs.length) (k : Nat) : itr zs k i = itr zs (k % cyc zs i) i := by
  conv => lhs; rw [← Nat.mod_add_div k (cyc zs i)]
  rw [itr_add, itr_mul h hi]
theorem itr_dvd {i : Nat} (hi : i < zs.length) (k : Nat) : itr zs k i = i ↔ cyc zs i ∣ k := by
  constructor
  · intro e
    rw [itr_mod h hi] at e
    apply Classical.byContradiction
    intro hn
    have hr : 0 < k % cyc zs i := Nat.pos_of_ne_zero fun h0 => hn (Nat.dvd_of_mod_eq_zero h0)
    exact (cyc_spec h hi).2.2 _ hr (Nat.mod_lt _ (cyc_pos i)) e
  · rintro ⟨q, rfl⟩
    exact itr_mul h hi q
theorem cyc_eq {i j : Nat} (hi : i < zs.length) (hj : j < zs.length) (e : ∀ k, itr zs k i = i ↔ itr zs k j = j) : cyc zs i = cyc zs j :=
  Nat.dvd_antisymm ((itr_dvd h hi _).1 ((e _).2 (cyc_spec h hj).2.1)) ((itr_dvd h hj _).1 ((e _).1 (cyc_spec h hi).2.1))
theorem cyc_itr {i : Nat} (hi : i < zs.length) (m : Nat) : cyc zs (itr zs m i) = cyc zs i := by
  refine cyc_eq h (itr_lt h hi m) hi fun k => ?_
  rw [← itr_add, Nat.add_comm, itr_add]
  exact ⟨fun e => itr_inj h (itr_lt h hi k) hi m e, fun e => by rw [e]⟩
/-- The places that a place leads to. -/
def orb (zs : List Int) (i : Nat) : List Nat := (List.range (cyc zs i)).map fun m => itr zs m i
omit h in
theorem orb_mem {i x : Nat} : x ∈ orb zs i ↔ ∃ m, m < cyc zs i ∧ x = itr zs m i := by
  simp only [orb, List.mem_map, List.mem_range]
  exact ⟨fun ⟨m, h1, h2⟩ => ⟨m, h1, h2.symm⟩, fun ⟨m, h1, h2⟩ => ⟨m, h1, h2.symm⟩⟩
theorem orb_any {i : Nat} (hi : i < zs.length) (m : Nat) : itr zs m i ∈ orb zs i :=
  orb_mem.2 ⟨m % cyc zs i, Nat.mod_lt _ (cyc_pos i), itr_mod h hi m⟩
theorem itr_ne {i a b : Nat} (hi : i < zs.length) (hab : a < b) (hb : b < cyc zs i) : itr zs a i ≠ itr zs b i := fun e =>
  (cyc_spec h hi).2.2 (b - a) (by omega) (by omega) (itr_back h hi (Nat.le_of_lt hab) e)
theorem orb_nodup {i : Nat} (hi : i < zs.length) : (orb zs i).Nodup := by
  show List.Pairwise _ _
  rw [orb, List.pairwise_map]
  refine List.Pairwise.imp_of_mem ?_ List.pairwise_lt_range
  intro a b ha hb hab e
  exact itr_ne h hi hab (List.mem_range.1 hb) e
omit h in
theorem orb_len (i : Nat) : (orb zs i).length = cyc zs i := by simp [orb]
theorem orb_sym {i j m : Nat} (hi : i < zs.length) (hj : j < zs.length) (e : itr zs m i ∈ orb zs j) : i ∈ orb zs j := by
  obtain ⟨q, _, e⟩ := orb_mem.1 e
  have hm : m ≤ cyc zs i * m := Nat.le_mul_of_pos_left m (cyc_pos i)
  have : i = itr zs (cyc zs i * m - m + q) j := by
    rw [itr_add, ← e, ← itr_add, show cyc zs i * m - m + m = cyc zs i * m by omega, itr_mul h hi]
  rw [this]
  exact orb_any h hj _
/-- The places that are visited from the first k. -/
def vis (zs : List Int) : Nat → List Nat
  | 0 => []
  | k + 1 => if k ∈ vis zs k then vis zs k else vis zs k ++ orb zs k
theorem vis_mem {x : Nat} : ∀ k, k ≤ zs.length → (x ∈ vis zs k ↔ ∃ j, j < k ∧ x ∈ orb zs j)
  | 0, _ => by simp [vis]
  | k + 1, hk => by
    have ih := vis_mem (x := x) k (by omega)
    rw [vis]
    split
    · rename_i hv
      rw [ih]
      constructor
      · rintro ⟨j, hj, hx⟩; exact ⟨j, by omega, hx⟩
      · rintro ⟨j, hj, hx⟩
        rcases Nat.lt_or_ge j k with h1 | h1
        · exact ⟨j, h1, hx⟩
        · obtain rfl : j = k := by omega
          obtain ⟨i, hi, hki⟩ := (vis_mem (x := j) j (by omega)).1 hv
          obtain ⟨m, _, rfl⟩ := orb_mem.1 hx
          obtain ⟨q, _, e⟩ := orb_mem.1 hki
          refine ⟨i, hi, ?_⟩
          rw [e, ← itr_add]
          exact orb_any h (by omega) _
    · rw [List.mem_append, ih]
      constructor
      · rintro (⟨j, hj, hx⟩ | hx)
        · exact ⟨j, by omega, hx⟩
        · exact ⟨k, by omega, hx⟩
      · rintro ⟨j, hj, hx⟩
        rcases Nat.lt_or_ge j k with h1 | h1
        · exact .inl ⟨j, h1, hx⟩
        · obtain rfl : j = k := by omega
          exact .inr hx
theorem vis_not {k m : Nat} (hk : k < zs.length) (hv : k ∉ vis zs k) : itr zs m k ∉ vis zs k := by
  intro hm
  obtain ⟨j, hj, hx⟩ := (vis_mem h k (by omega)).1 hm
  exact hv ((vis_mem h k (by omega)).2 ⟨j, hj, orb_sym h hk (by omega) hx⟩)
theorem vis_ok : ∀ k, k ≤ zs.length → (vis zs k).Nodup ∧ ∀ x ∈ vis zs k, x < zs.length
  | 0, _ => by simp [vis]
  | k + 1, hk => by
    obtain ⟨h1, h2⟩ := vis_ok k (by omega)
    rw [vis]
    split
    · exact ⟨h1, h2⟩
    · rename_i hv
      refine ⟨?_, fun x hx => ?_⟩
      · rw [List.nodup_append]
        refine ⟨h1, orb_nodup h (by omega), fun a ha b hb e => ?_⟩
        obtain ⟨m, _, rfl⟩ := orb_mem.1 hb
        exact vis_not h (by omega) hv (e ▸ ha)
      · rcases List.mem_append.1 hx with hx | hx
        · exact h2 x hx
        · obtain ⟨m, _, rfl⟩ := orb_mem.1 hx
          exact itr_lt h (by omega) m
theorem vis_len {k : Nat} (hk : k ≤ zs.length) : (vis zs k).length ≤ zs.length := short_of_nodup (vis_ok h k hk).1 (vis_ok h k hk).2
/-- The least common multiple of the cycles of the first k places. -/
def lcmK (zs : List Int) : Nat → Nat
  | 0 => 1
  | k + 1 => Nat.lcm (lcmK zs k) (cyc zs k)
omit h in
theorem lcmK_pos : ∀ k, 1 ≤ lcmK zs k
  | 0 => Nat.le_refl _
  | k + 1 => Nat.lcm_pos (lcmK_pos k) (cyc_pos k)
omit h in
theorem lcmK_dvd {j : Nat} : ∀ k, j < k → cyc zs j ∣ lcmK zs k
  | 0, hj => absurd hj (by omega)
  | k + 1, hj => by
    rw [lcmK]
    rcases Nat.lt_or_ge j k with h1 | h1
    · exact Nat.dvd_trans (lcmK_dvd k h1) (Nat.dvd_lcm_left _ _)
    · obtain rfl : j = k := by omega
      exact Nat.dvd_lcm_right _ _
omit h in
theorem lcmK_least {m : Nat} : ∀ k, (∀ j, j < k → cyc zs j ∣ m) → lcmK zs k ∣ m
  | 0, _ => Nat.one_dvd _
  | k + 1, hd => Nat.lcm_dvd (lcmK_least k fun j hj => hd j (by omega)) (hd k (by omega))
theorem lcmK_seen {k : Nat} (hk : k < zs.length) (hv : k ∈ vis zs k) : lcmK zs (k + 1) = lcmK zs k := by
  obtain ⟨j, hj, hx⟩ := (vis_mem h k (by omega)).1 hv
  obtain ⟨m, _, e⟩ := orb_mem.1 hx
  have hc : cyc zs k = cyc zs j := by conv => lhs; rw [e]
                                      exact cyc_itr h (by omega) m
  rw [lcmK, hc]
  exact Nat.dvd_antisymm (Nat.lcm_dvd (Nat.dvd_refl _) (lcmK_dvd k hj)) (Nat.dvd_lcm_left _ _)
theorem lcmK_bound : ∀ k, k ≤ zs.length → lcmK zs k ≤ 2 ^ (vis zs k).length
  | 0, _ => by simp [lcmK, vis]
  | k + 1, hk => by
    have ih := lcmK_bound k (by omega)
    by_cases hv : k ∈ vis zs k
    · rw [lcmK_seen h (by omega) hv, vis, if_pos hv]; exact ih
    · rw [vis, if_neg hv, List.length_append, orb_len, Nat.pow_add, lcmK]
      refine Nat.le_trans (Nat.le_of_dvd (Nat.mul_pos (lcmK_pos k) (cyc_pos k)) (Nat.lcm_dvd (Nat.dvd_mul_right _ _) (Nat.dvd_mul_left _ _))) ?_
      exact Nat.mul_le_mul ih (Nat.le_of_lt Nat.lt_two_pow_self)
theorem lcmK_le {k : Nat} (hk : k ≤ zs.length) (hn : zs.length ≤ 44) : lcmK zs k ≤ 17592186044416 := by
  refine Nat.le_trans (lcmK_bound h k hk) ?_
  exact Nat.le_trans (Nat.pow_le_pow_right (by omega) (Nat.le_trans (vis_len h hk) hn)) (by decide)
end
/-- The repetitions of an order. -/
def po (zs : List Int) : Nat := if plv zs && decide (zs.length ≤ 44) then lcmK zs zs.length else 0
theorem po_yes {zs : List Int} (h : plv zs = true) (hl : zs.length ≤ 44) : po zs = lcmK zs zs.length := by rw [po, h, decide_eq_true hl]; rfl
theorem po_no {zs : List Int} (h : plv zs = false ∨ 44 < zs.length) : po zs = 0 := by
  unfold po
  rw [if_neg]
  simp only [Bool.and_eq_true, decide_eq_true_eq, not_and]
  intro h1
  rcases h with h | h
  · rw [h1] at h; cases h
  · omega
end Go.Proofs.Ytofnknfoblkcfaa
