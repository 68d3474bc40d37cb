/- Plain laws: the shape of a key; the columns one place after the other; keys of one letter. No condition. -/
import Derived.Test.YteelipdkbheaoaaPlainK
set_option linter.unusedVariables false
namespace Go.Proofs.Yteelipdkbheaoaa

/-- The key with the first letters of the alphabet in the order zs, as far as the first k of them. -/
def shK (zs : List Int) : Nat → List Nat
  | 0 => List.replicate zs.length 0
  | k + 1 => (shK zs k).set (zs.getD k 0).toNat (97 + k)
def shL (zs : List Int) : List Nat := shK zs zs.length
theorem shK_len (zs : List Int) (k : Nat) : (shK zs k).length = zs.length := by
  induction k with
  | zero => simp [shK]
  | succ k ih => rw [shK, List.length_set, ih]
theorem shL_len (zs : List Int) : (shL zs).length = zs.length := shK_len _ _
theorem shK_lt (zs : List Int) (h : zs.length ≤ 100) : ∀ k, k ≤ zs.length → ∀ x ∈ shK zs k, x < 256
  | 0, _, x, hx => by simp [shK] at hx; omega
  | k + 1, hk, x, hx => by
    rw [shK] at hx
    rcases List.mem_or_eq_of_mem_set hx with h1 | h1
    · exact shK_lt zs h k (by omega) x h1
    · omega
theorem shK_at {zs : List Int} (h : plv zs = true) : ∀ (k j : Nat), j < k → k ≤ zs.length → ∀ z : Nat, zs[j]? = some (z : Int) → (shK zs k)[z]? = some (97 + j)
  | 0, j, hj, _, _, _ => absurd hj (by omega)
  | k + 1, j, hj, hk, z, hz => by
    obtain ⟨y, hy, hyl⟩ := plv_nat h (by omega : k < zs.length)
    have e : (zs.getD k 0).toNat = y := by rw [List.getD_eq_getElem?_getD, hy]; simp
    rw [shK, e, List.getElem?_set, shK_len]
    by_cases hyz : y = z
    · subst hyz
      have : j = k := plv_inj h hz hy
      rw [if_pos rfl, if_pos hyl, this]
    · rw [if_neg hyz]
      have hjk : j ≠ k := by
        intro e
        subst e
        rw [hz] at hy
        injection hy with hy
        exact hyz (by omega)
      exact shK_at h k j (by omega) (by omega) z hz
theorem shL_at {zs : List Int} {k z : Nat} (h : plv zs = true) (hz : zs[k]? = some (z : Int)) : (shL zs)[z]? = some (97 + k) :=
  shK_at h _ k (List.getElem?_eq_some_iff.1 hz).1 (Nat.le_refl _) z hz
theorem shL_wv {zs : List Int} (h : plv zs = true) (h10 : zs.length ≤ 10) : wv (shL zs) = true := by
  refine wv_ofR (by rw [shL_len]; omega) fun x hx => ?_
  obtain ⟨i, hi⟩ := List.getElem?_of_mem hx
  have hil : i < zs.length := by have := (List.getElem?_eq_some_iff.1 hi).1; rwa [shL_len] at this
  obtain ⟨k, hk, hkz⟩ := plv_onto h hil
  rw [shL_at h hkz] at hi
  injection hi with hi
  omega
theorem shL_kval {zs : List Int} (h : plv zs = true) (h1 : 1 ≤ zs.length) (h10 : zs.length ≤ 10) : kval (shL zs) = true :=
  kval_of (by rw [shL_len]; exact h1) (by rw [shL_len]; omega) (shL_wv h h10)
/-- The key of the shape has the same order. -/
theorem shape_ko {zs : List Int} (h : plv zs = true) (h10 : zs.length ≤ 10) : koL (shL zs) = zs := by
  symm
  refine koL_of (shL_wv h h10) ?_ (by rw [shL_len]; exact perm_of_plv h)
  rw [List.pairwise_iff_getElem]
  intro i j hi hj hij
  obtain ⟨a, ha, hal⟩ := plv_nat h hi
  obtain ⟨b, hb, hbl⟩ := plv_nat h hj
  have ea := (List.getElem?_eq_some_iff.1 ha).2
  have eb := (List.getElem?_eq_some_iff.1 hb).2
  rw [ea, eb]
  refine .inl ?_
  simp only [kv, Int.toNat_natCast, List.getD_eq_getElem?_getD]
  rw [shL_at h ha, shL_at h hb]
  simp only [Option.getD_some]
  omega
theorem shape_col {ks : List Nat} (h : kval ks = true) (h10 : ks.length ≤ 10) (n : Nat) : colL (shL (koL ks)) n = colL ks n := by
  have hl := koL_len (kval_yes h).2.2
  rw [colL, colL, shape_ko (koL_plv h) (by omega), shL_len, hl]
theorem colK_pre {m c a n : Nat} (hac : a % m = c) (han : a < n) : ∃ r, colK m c n = colK m c a ++ (a : Int) :: r := by
  obtain ⟨d, rfl⟩ : ∃ d, n = (a + 1) + d := ⟨n - (a + 1), by omega⟩
  have e : List.range (a + 1 + d) = List.range (a + 1) ++ (List.range d).map (a + 1 + ·) := List.range_add
  have e2 : colK m c (a + 1 + d) = colK m c (a + 1) ++ ((((List.range d).map (a + 1 + ·)).filter fun x => x % m == c).map fun x : Nat => (x : Int)) := by
    unfold colK; rw [e, List.filter_append, List.map_append]
  refine ⟨((((List.range d).map (a + 1 + ·)).filter fun x => x % m == c).map fun x : Nat => (x : Int)), ?_⟩
  rw [e2, colK_yes hac, List.append_assoc]
  rfl
/-- The place that is read next. -/
theorem col_at {ks : List Nat} {n k c a : Nat} (hc : (koL ks)[k]? = some (c : Int)) (hac : a % ks.length = c) (han : a < n) :
    (colL ks n)[(((cols ks.length (koL ks) n).take k).flatten ++ colK ks.length c a).length]? = some (a : Int) := by
  obtain ⟨r, hr⟩ := colK_pre hac han
  have e : colL ks n = (((cols ks.length (koL ks) n).take k).flatten ++ colK ks.length c a) ++ ((a : Int) :: (r ++ ((cols ks.length (koL ks) n).drop (k + 1)).flatten)) := by
    rw [colL]
    conv => lhs; rw [← List.take_append_drop (k + 1) (cols ks.length (koL ks) n)]
    rw [List.flatten_append, cols_take hc, hr]
    simp
  rw [e, List.getElem?_append_right (Nat.le_refl _), Nat.sub_self]
  rfl
/-- A key of one letter changes nothing. -/
theorem ko_one {c : Nat} (h : wv [c] = true) : koL [c] = [0] := (koL_of h (by simp) (by simp [iota])).symm
theorem col_one {c : Nat} (h : wv [c] = true) (n : Nat) : colL [c] n = iota n := by
  rw [colL, ko_one h]
  simp [cols, colK, iota, Nat.mod_one]
  rw [List.filter_eq_self.2 (fun _ _ => rfl)]
theorem kval_one {ks : List Nat} (h : kval ks = true) : ∃ c, ks.take 1 = [c] ∧ wv [c] = true ∧ kval [c] = true := by
  obtain ⟨h1, h2, hw⟩ := kval_yes h
  match ks, h1, hw with
  | c :: ks, _, hw =>
    have hm := wv_mem hw (by simp : c ∈ c :: ks)
    have hw1 : wv [c] = true := wv_ofR (by simp) (fun x hx => by simp at hx; subst hx; exact hm)
    exact ⟨c, rfl, hw1, kval_of (by simp) (by simp) hw1⟩
theorem readL_iota {l : List Nat} : readL l (iota l.length) = l := by
  apply List.ext_getElem?
  intro i
  rcases Nat.lt_or_ge i l.length with h | h
  · exact (readL_at (iota_at _ i h) (List.getElem?_eq_getElem h)).trans (List.getElem?_eq_getElem h).symm
  · rw [List.getElem?_eq_none (by rw [readL_len, iota_len]; exact h), List.getElem?_eq_none h]
end Go.Proofs.Yteelipdkbheaoaa
