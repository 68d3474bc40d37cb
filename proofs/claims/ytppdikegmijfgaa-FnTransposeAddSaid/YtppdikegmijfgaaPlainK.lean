/- Plain laws of the order of a key and of columns. No condition. -/
import Derived.Test.YtppdikegmijfgaaPlain17d
set_option linter.unusedVariables false
namespace Go.Proofs.Ytppdikegmijfgaa

/-- A key's letter at a place. -/
def kv (ks : List Nat) (z : Int) : Nat := ks.getD z.toNat 0
def slt (ks : List Nat) (a b : Int) : Prop := kv ks a < kv ks b ∨ (kv ks a = kv ks b ∧ a < b)
theorem slt_asymm {ks : List Nat} {a b : Int} (h : slt ks a b) (h' : slt ks b a) : False := by unfold slt at h h'; omega
/-- A strictly ascending list is determined by its members. -/
theorem sorted_eq {ks : List Nat} : ∀ {l m : List Int}, l.Pairwise (slt ks) → m.Pairwise (slt ks) → l.Perm m → l = m
  | [], m, _, _, h => by rw [List.nil_perm.1 h]
  | a :: l, m, hl, hm, h => by
    match m, hm, h with
    | [], _, h => simp at h
    | b :: m, hm, h =>
      have hl' := List.pairwise_cons.1 hl
      have hm' := List.pairwise_cons.1 hm
      have hab : a = b := by
        have ha : a ∈ b :: m := h.subset (by simp)
        have hb : b ∈ a :: l := h.symm.subset (by simp)
        rcases List.mem_cons.1 ha with e | ha
        · exact e
        · rcases List.mem_cons.1 hb with e | hb
          · exact e.symm
          · exact (slt_asymm (hl'.1 b hb) (hm'.1 a ha)).elim
      subst hab
      rw [sorted_eq hl'.2 hm'.2 (List.Perm.cons_inv h)]
def kx (ks : List Nat) (x m : Nat) : List Int := ((List.range m).filter fun i => ks.getD i 0 == 97 + x).map fun a : Nat => (a : Int)
def kxs (ks : List Nat) (k : Nat) : List (List Int) := (List.range k).map fun x => kx ks x ks.length
/-- The order of a key. -/
def koL (ks : List Nat) : List Int := (kxs ks 10).flatten
def kval (ks : List Nat) : Bool := decide (1 ≤ (ks.length : Int) ∧ (ks.length : Int) ≤ 12) && wv ks
def ko (ks : List Nat) : List Int := if kval ks then koL ks else []
theorem kval_yes {ks : List Nat} (h : kval ks = true) : 1 ≤ ks.length ∧ ks.length ≤ 12 ∧ wv ks = true := by
  simp only [kval, Bool.and_eq_true, decide_eq_true_eq] at h
  exact ⟨by omega, by omega, h.2⟩
theorem kval_of {ks : List Nat} (h1 : 1 ≤ ks.length) (h2 : ks.length ≤ 12) (h3 : wv ks = true) : kval ks = true := by
  rw [kval, h3, Bool.and_true, decide_eq_true_eq]; omega
theorem kx_zero (ks : List Nat) (x : Nat) : kx ks x 0 = [] := rfl
theorem kx_yes {ks : List Nat} {x a c : Nat} (hc : ks[a]? = some c) (h : c = 97 + x) : kx ks x (a + 1) = kx ks x a ++ [(a : Int)] := by
  simp [kx, List.range_succ, List.filter_append, List.getD_eq_getElem?_getD, hc, h]
theorem kx_no {ks : List Nat} {x a c : Nat} (hc : ks[a]? = some c) (h : c ≠ 97 + x) : kx ks x (a + 1) = kx ks x a := by
  simp [kx, List.range_succ, List.filter_append, List.getD_eq_getElem?_getD, hc, h]
theorem kx_len (ks : List Nat) (x m : Nat) : (kx ks x m).length ≤ m := by
  unfold kx
  rw [List.length_map]
  exact Nat.le_trans (List.length_filter_le _ _) (by simp)
theorem kxs_succ (ks : List Nat) (k : Nat) : (kxs ks (k + 1)).flatten = (kxs ks k).flatten ++ kx ks k ks.length := by simp [kxs, List.range_succ]
theorem kx_mem {ks : List Nat} {x m : Nat} {z : Int} : z ∈ kx ks x m ↔ ∃ a : Nat, z = (a : Int) ∧ a < m ∧ ks.getD a 0 = 97 + x := by
  simp only [kx, List.mem_map, List.mem_filter, List.mem_range, beq_iff_eq]
  constructor
  · rintro ⟨a, ⟨h1, h2⟩, h3⟩; exact ⟨a, h3.symm, h1, h2⟩
  · rintro ⟨a, h1, h2, h3⟩; exact ⟨a, ⟨h2, h3⟩, h1.symm⟩
theorem kxs_mem {ks : List Nat} {k : Nat} {z : Int} (h : z ∈ (kxs ks k).flatten) : ∃ x a : Nat, z = (a : Int) ∧ a < ks.length ∧ x < k ∧ ks.getD a 0 = 97 + x := by
  simp only [kxs, List.mem_flatten, List.mem_map, List.mem_range] at h
  obtain ⟨l, ⟨x, hx, rfl⟩, hz⟩ := h
  obtain ⟨a, h1, h2, h3⟩ := kx_mem.1 hz
  exact ⟨x, a, h1, h2, hx, h3⟩
theorem kx_sorted (ks : List Nat) (x m : Nat) : (kx ks x m).Pairwise (slt ks) := by
  unfold kx
  have h1 : ((List.range m).filter fun i => ks.getD i 0 == 97 + x).Pairwise (· < ·) := List.Pairwise.filter _ List.pairwise_lt_range
  have h2 : ((List.range m).filter fun i => ks.getD i 0 == 97 + x).Pairwise (fun (a b : Nat) => slt ks (a : Int) (b : Int)) := by
    refine List.Pairwise.imp_of_mem ?_ h1
    intro a b ha hb hab
    have e1 : ks.getD a 0 = 97 + x := by simpa using (List.mem_filter.1 ha).2
    have e2 : ks.getD b 0 = 97 + x := by simpa using (List.mem_filter.1 hb).2
    refine .inr ⟨?_, by omega⟩
    simp only [kv, Int.toNat_natCast]
    rw [e1, e2]
  exact List.Pairwise.map _ (fun a b h => h) h2
theorem kxs_sorted (ks : List Nat) (k : Nat) : ((kxs ks k).flatten).Pairwise (slt ks) := by
  induction k with
  | zero => simp [kxs]
  | succ k ih =>
    rw [kxs_succ, List.pairwise_append]
    refine ⟨ih, kx_sorted ks k _, fun a ha b hb => ?_⟩
    obtain ⟨x, p, rfl, _, hx, h1⟩ := kxs_mem ha
    obtain ⟨q, rfl, _, h2⟩ := kx_mem.1 hb
    refine .inl ?_
    simp only [kv, Int.toNat_natCast]
    omega
theorem slt_ne {ks : List Nat} {a b : Int} (h : slt ks a b) : a ≠ b := by intro e; subst e; exact slt_asymm h h
theorem sorted_nodup {ks : List Nat} {l : List Int} (h : l.Pairwise (slt ks)) : l.Nodup := h.imp slt_ne
theorem kxs_nodup (ks : List Nat) (k : Nat) : ((kxs ks k).flatten).Nodup := sorted_nodup (kxs_sorted ks k)
theorem kxs_len (ks : List Nat) (k : Nat) : ((kxs ks k).flatten).length ≤ ks.length := by
  have h : ∀ z ∈ (kxs ks k).flatten, z ∈ iota ks.length := by
    intro z hz
    obtain ⟨x, a, rfl, ha, _, _⟩ := kxs_mem hz
    rw [iota_mem]; omega
  rcases Nat.lt_or_ge ks.length ((kxs ks k).flatten).length with h1 | h1
  · have := (perm_of_sub _ _ (kxs_nodup ks k) h (by rw [iota_len]; omega)).length_eq
    rw [iota_len] at this; omega
  · exact h1
theorem koL_mem {ks : List Nat} (hw : wv ks = true) {z : Int} : z ∈ koL ks ↔ z ∈ iota ks.length := by
  rw [iota_mem]
  constructor
  · intro h
    obtain ⟨x, a, rfl, ha, _, _⟩ := kxs_mem h
    omega
  · intro ⟨h0, h1⟩
    obtain ⟨c, hc⟩ : ∃ c, ks[z.toNat]? = some c := ⟨_, List.getElem?_eq_getElem (by omega)⟩
    have hr := wv_mem hw (List.mem_of_getElem? hc)
    simp only [koL, kxs, List.mem_flatten, List.mem_map, List.mem_range]
    refine ⟨_, ⟨c - 97, by omega, rfl⟩, kx_mem.2 ⟨z.toNat, by omega, by omega, ?_⟩⟩
    rw [List.getD_eq_getElem?_getD, hc]
    simp only [Option.getD_some]
    omega
theorem koL_sorted (ks : List Nat) : (koL ks).Pairwise (slt ks) := kxs_sorted ks 10
theorem koL_perm {ks : List Nat} (hw : wv ks = true) : (koL ks).Perm (iota ks.length) := by
  rw [List.perm_ext_iff_of_nodup (show (koL ks).Nodup from kxs_nodup ks 10) (iota_nodup _)]
  intro z
  exact koL_mem hw
theorem koL_len {ks : List Nat} (hw : wv ks = true) : (koL ks).length = ks.length := by rw [(koL_perm hw).length_eq, iota_len]
theorem koL_of {ks : List Nat} (hw : wv ks = true) {l : List Int} (h1 : l.Pairwise (slt ks)) (h2 : l.Perm (iota ks.length)) : l = koL ks :=
  sorted_eq h1 (koL_sorted ks) (h2.trans (koL_perm hw).symm)
theorem koL_plv {ks : List Nat} (h : kval ks = true) : plv (koL ks) = true := by
  obtain ⟨_, h2, hw⟩ := kval_yes h
  exact plv_of_perm (by omega) (koL_perm hw)
theorem ko_len (ks : List Nat) : (ko ks).length ≤ 12 := by
  unfold ko
  split
  · rename_i h; obtain ⟨_, h2, h3⟩ := kval_yes h; rw [koL_len h3]; exact h2
  · simp
/-- The list while the place i sinks into the sorted places S: it stands at j; T lies behind. -/
def sink (S : List Int) (i : Int) (T : List Int) (j : Nat) : List Int := S.take j ++ i :: (S.drop j ++ T)
theorem sink_len (S : List Int) (i : Int) (T : List Int) (j : Nat) (hj : j ≤ S.length) : (sink S i T j).length = S.length + 1 + T.length := by
  simp [sink]; omega
theorem sink_at (S : List Int) (i : Int) (T : List Int) (j : Nat) (hj : j ≤ S.length) : (sink S i T j)[j]? = some i := by
  unfold sink
  rw [List.getElem?_append_right (by rw [List.length_take]; omega), List.length_take, Nat.min_eq_left hj, Nat.sub_self]
  rfl
theorem sink_left (S : List Int) (i : Int) (T : List Int) (j : Nat) (hj : j < S.length) {x : Int} (hx : S[j]? = some x) : (sink S i T (j + 1))[j]? = some x := by
  unfold sink
  rw [List.getElem?_append_left (by rw [List.length_take]; omega), List.getElem?_take, if_pos (by omega), hx]
theorem sink_step (S : List Int) (i : Int) (T : List Int) (j : Nat) {x : Int} (hx : S[j]? = some x) : ((sink S i T (j + 1)).set (j + 1) x).set j i = sink S i T j := by
  obtain ⟨hj, rfl⟩ := List.getElem?_eq_some_iff.1 hx
  have e1 : S.take (j + 1) = S.take j ++ [S[j]] := by rw [List.take_add_one, hx]; rfl
  have e2 : S.drop j = S[j] :: S.drop (j + 1) := (List.drop_eq_getElem_cons hj)
  have l1 : (S.take j).length = j := by rw [List.length_take]; omega
  have f1 : sink S i T (j + 1) = S.take j ++ (S[j] :: i :: (S.drop (j + 1) ++ T)) := by unfold sink; rw [e1, List.append_assoc]; rfl
  have f2 : sink S i T j = S.take j ++ (i :: S[j] :: (S.drop (j + 1) ++ T)) := by unfold sink; rw [e2]; rfl
  rw [f1, f2]
  generalize S.take j = A at l1
  generalize S[j] = x
  subst l1
  rw [List.set_append_right _ _ (by omega), List.set_append_right _ _ (by omega), Nat.sub_self, Nat.add_sub_cancel_left]
  rfl
theorem sink_step' (S : List Int) (i : Int) (T : List Int) (j : Nat) {x : Int} (hx : S[j]? = some x) : ((sink S i T (j + 1)).set j i).set (j + 1) x = sink S i T j := by
  rw [List.set_comm _ _ (by omega), sink_step S i T j hx]
/-- Outer state: the first i places are sorted. -/
def sorted (ks : List Nat) (i : Nat) (S : List Int) : Prop := S.Pairwise (slt ks) ∧ S.Perm (iota i)
theorem iota_succ (i : Nat) : iota (i + 1) = iota i ++ [(i : Int)] := by simp [iota, List.range_succ]
theorem sorted_zero (ks : List Nat) : sorted ks 1 [0] := ⟨by simp, by simp [iota]⟩
theorem sorted_len {ks : List Nat} {i : Nat} {S : List Int} (h : sorted ks i S) : S.length = i := by rw [h.2.length_eq, iota_len]
/-- What lies behind the place: greater letters. -/
def behind (ks : List Nat) (i : Nat) (S : List Int) (j : Nat) : Prop := ∀ z ∈ S.drop j, kv ks (i : Int) < kv ks z
theorem behind_end {ks : List Nat} {i : Nat} {S : List Int} (h : S.length = i) : behind ks i S i := by
  intro z hz; rw [List.drop_eq_nil_of_le (by omega)] at hz; simp at hz
theorem behind_step {ks : List Nat} {i j : Nat} {S : List Int} (h : behind ks i S (j + 1)) {x : Int} (hx : S[j]? = some x) (hlt : kv ks (i : Int) < kv ks x) : behind ks i S j := by
  obtain ⟨hj, rfl⟩ := List.getElem?_eq_some_iff.1 hx
  intro z hz
  rw [List.drop_eq_getElem_cons hj] at hz
  rcases List.mem_cons.1 hz with rfl | hz
  · exact hlt
  · exact h z hz
theorem sorted_done {ks : List Nat} {i j : Nat} {S : List Int} (h : sorted ks i S) (hb : behind ks i S j) (hj : j ≤ i) (hs : j = 0 ∨ ∃ x, S[j - 1]? = some x ∧ kv ks x ≤ kv ks (i : Int)) :
    sorted ks (i + 1) (S.take j ++ (i : Int) :: S.drop j) := by
  have hl := sorted_len h
  have hmem : ∀ z ∈ S, z < (i : Int) := by
    intro z hz
    have := h.2.subset hz
    rw [iota_mem] at this; omega
  refine ⟨?_, ?_⟩
  · have hS : (S.take j ++ S.drop j).Pairwise (slt ks) := by rw [List.take_append_drop]; exact h.1
    rw [List.pairwise_append] at hS
    rw [List.pairwise_append, List.pairwise_cons]
    have hleft : ∀ a ∈ S.take j, slt ks a (i : Int) := by
      intro a ha
      rcases hs with rfl | ⟨x, hx, hle⟩
      · simp at ha
      · have haS := hmem a (List.mem_of_mem_take ha)
        have hax : kv ks a ≤ kv ks x := by
          obtain ⟨p, hp⟩ := List.getElem?_of_mem ha
          rw [List.getElem?_take] at hp
          split at hp
          · rename_i hpj
            rcases Nat.lt_or_ge p (j - 1) with h1 | h1
            · have := List.pairwise_iff_getElem.1 h.1 p (j - 1) (by omega) (by omega) h1
              obtain ⟨_, e1⟩ := List.getElem?_eq_some_iff.1 hp
              obtain ⟨_, e2⟩ := List.getElem?_eq_some_iff.1 hx
              rw [e1, e2] at this
              unfold slt at this; omega
            · have : p = j - 1 := by omega
              subst this
              rw [hp] at hx; injection hx with hx; subst hx; exact Nat.le_refl _
          · cases hp
        unfold slt
        omega
    refine ⟨hS.1, ⟨fun b hb' => .inl (hb b hb'), hS.2.1⟩, fun a ha b hb' => ?_⟩
    rcases List.mem_cons.1 hb' with rfl | hb'
    · exact hleft a ha
    · exact hS.2.2 a ha b hb'
  · rw [iota_succ]
    have h1 : (S.take j ++ (i : Int) :: S.drop j).Perm ((i : Int) :: (S.take j ++ S.drop j)) := List.perm_middle
    rw [List.take_append_drop] at h1
    refine h1.trans ?_
    exact ((List.Perm.cons _ h.2).trans (List.perm_append_comm (l₁ := [(i : Int)]) (l₂ := iota i)))
/-- The places of a column. -/
def colK (m c a : Nat) : List Int := ((List.range a).filter fun x => x % m == c).map fun x : Nat => (x : Int)
def cols (m : Nat) (os : List Int) (n : Nat) : List (List Int) := os.map fun c => colK m c.toNat n
def colL (ks : List Nat) (n : Nat) : List Int := (cols ks.length (koL ks) n).flatten
def cpv (ks : List Nat) (n : Int) : Bool := kval ks && decide (0 ≤ n ∧ n ≤ 200)
def cp (ks : List Nat) (n : Int) : List Int := if cpv ks n then colL ks n.toNat else []
theorem colK_zero (m c : Nat) : colK m c 0 = [] := rfl
theorem colK_yes {m c a : Nat} (h : a % m = c) : colK m c (a + 1) = colK m c a ++ [(a : Int)] := by
  simp [colK, List.range_succ, List.filter_append, h]
theorem colK_no {m c a : Nat} (h : a % m ≠ c) : colK m c (a + 1) = colK m c a := by
  simp [colK, List.range_succ, List.filter_append, h]
theorem colK_mem {m c a : Nat} {z : Int} : z ∈ colK m c a ↔ ∃ x : Nat, z = (x : Int) ∧ x < a ∧ x % m = c := by
  simp only [colK, List.mem_map, List.mem_filter, List.mem_range, beq_iff_eq]
  constructor
  · rintro ⟨a, ⟨h1, h2⟩, h3⟩; exact ⟨a, h3.symm, h1, h2⟩
  · rintro ⟨a, h1, h2, h3⟩; exact ⟨a, ⟨h2, h3⟩, h1.symm⟩
theorem colK_len (m c a : Nat) : (colK m c a).length ≤ a := by
  unfold colK
  rw [List.length_map]
  exact Nat.le_trans (List.length_filter_le _ _) (by simp)
theorem colK_nodup (m c n : Nat) : (colK m c n).Nodup := by
  unfold colK
  refine List.Pairwise.map _ (fun a b h => ?_) ((List.nodup_range).filter _)
  omega
theorem colK_skip {m c : Nat} : ∀ (d a : Nat), (∀ t, t < d → (a + t) % m ≠ c) → colK m c (a + d) = colK m c a
  | 0, a, _ => rfl
  | d + 1, a, h => by
    rw [← Nat.add_assoc, colK_no (h d (by omega))]
    exact colK_skip d a fun t ht => h t (by omega)
theorem mod_add {m c a t : Nat} (hm : 0 < m) (ha : a % m = c) (h0 : 0 < t) (ht : t < m) : (a + t) % m ≠ c := by
  intro h
  have h1 : (a + t) % m = (a + 0) % m := by rw [h, Nat.add_zero, ha]
  have e1 := Nat.div_add_mod (a + t) m
  have e2 := Nat.div_add_mod a m
  rw [h] at e1
  rw [ha] at e2
  have : m * ((a + t) / m) = m * (a / m) + t := by omega
  have h2 : t % m = 0 := by
    have := congrArg (· % m) this
    simpa [Nat.mul_add_mod] using this.symm
  rw [Nat.mod_eq_of_lt ht] at h2
  omega
/-- From one place of a column to the next. -/
theorem colK_next {m c a : Nat} (hm : 0 < m) (ha : a % m = c) : colK m c (a + m) = colK m c a ++ [(a : Int)] := by
  obtain ⟨d, rfl⟩ : ∃ d, m = d + 1 := ⟨m - 1, by omega⟩
  have e : a + (d + 1) = (a + 1) + d := by omega
  rw [e, colK_skip d (a + 1) (fun t ht => by rw [Nat.add_assoc]; exact mod_add hm ha (by omega) (by omega)), colK_yes ha]
/-- Behind the end there is none. -/
theorem colK_done {m c a n : Nat} (hm : 0 < m) (ha : a % m = c) (h1 : n ≤ a) (h2 : a < n + m) : colK m c a = colK m c n := by
  obtain ⟨d, rfl⟩ : ∃ d, a = n + d := ⟨a - n, by omega⟩
  refine colK_skip d n fun t ht h => ?_
  have := mod_add (t := d - t) hm h (by omega) (by omega)
  rw [show n + t + (d - t) = n + d by omega] at this
  exact this ha
theorem colK_start {m c : Nat} (hc : c < m) : colK m c c = [] := by
  have := colK_skip (m := m) (c := c) c 0 fun t ht => by rw [Nat.zero_add, Nat.mod_eq_of_lt (by omega)]; omega
  rw [Nat.zero_add] at this
  exact this
theorem cols_take {m : Nat} {os : List Int} {n k : Nat} {c : Nat} (hc : os[k]? = some (c : Int)) : ((cols m os n).take (k + 1)).flatten = ((cols m os n).take k).flatten ++ colK m c n := by
  have : (cols m os n)[k]? = some (colK m c n) := by simp [cols, hc]
  rw [List.take_add_one, this]
  simp
theorem cols_len (m : Nat) (os : List Int) (n : Nat) : (cols m os n).length = os.length := by simp [cols]
theorem cols_mem {m : Nat} {os : List Int} {n k : Nat} {z : Int} (h : z ∈ ((cols m os n).take k).flatten) : ∃ x : Nat, z = (x : Int) ∧ x < n ∧ ∃ c ∈ os.take k, x % m = c.toNat := by
  simp only [cols, ← List.map_take, List.mem_flatten, List.mem_map] at h
  obtain ⟨l, ⟨c, hc, rfl⟩, hz⟩ := h
  obtain ⟨x, h1, h2, h3⟩ := colK_mem.1 hz
  exact ⟨x, h1, h2, c, hc, h3⟩
theorem cols_nodup {m : Nat} {os : List Int} (hos : plv os = true) (n : Nat) : ∀ k, k ≤ os.length → (((cols m os n).take k).flatten).Nodup
  | 0, _ => by simp
  | k + 1, hk => by
    obtain ⟨c, hc, hcl⟩ := plv_nat hos (by omega : k < os.length)
    rw [cols_take hc, List.nodup_append]
    refine ⟨cols_nodup hos n k (by omega), colK_nodup _ _ _, fun a ha b hb e => ?_⟩
    subst e
    obtain ⟨x, rfl, _, c', hc', h1⟩ := cols_mem ha
    obtain ⟨y, h2, _, h3⟩ := colK_mem.1 hb
    have hxy : x = y := by omega
    subst hxy
    obtain ⟨p, hp⟩ := List.getElem?_of_mem hc'
    rw [List.getElem?_take] at hp
    split at hp
    · rename_i hpk
      have h0 := (plv_at hos hp).1
      have : c' = (c : Int) := by omega
      subst this
      have := plv_inj hos hp hc
      omega
    · cases hp
theorem colL_mem {ks : List Nat} (h : kval ks = true) {n : Nat} {z : Int} : z ∈ colL ks n ↔ z ∈ iota n := by
  obtain ⟨h1, h2, hw⟩ := kval_yes h
  rw [iota_mem]
  have e : (cols ks.length (koL ks) n) = (cols ks.length (koL ks) n).take (koL ks).length := by rw [← cols_len ks.length (koL ks) n, List.take_length]
  constructor
  · intro hz
    rw [colL, e] at hz
    obtain ⟨x, rfl, hx, _⟩ := cols_mem hz
    omega
  · intro ⟨h3, h4⟩
    simp only [colL, cols, List.mem_flatten, List.mem_map]
    refine ⟨_, ⟨((z.toNat % ks.length : Nat) : Int), (koL_mem hw).2 (iota_mem.2 ?_), rfl⟩, colK_mem.2 ⟨z.toNat, by omega, by omega, (Int.toNat_natCast _).symm⟩⟩
    have := Nat.mod_lt z.toNat (by omega : 0 < ks.length)
    omega
theorem colL_perm {ks : List Nat} (h : kval ks = true) (n : Nat) : (colL ks n).Perm (iota n) := by
  have e : (cols ks.length (koL ks) n) = (cols ks.length (koL ks) n).take (koL ks).length := by rw [← cols_len ks.length (koL ks) n, List.take_length]
  have hn : (colL ks n).Nodup := by rw [colL, e]; exact cols_nodup (koL_plv h) n _ (Nat.le_refl _)
  rw [List.perm_ext_iff_of_nodup hn (iota_nodup _)]
  intro z
  exact colL_mem h
theorem colL_len {ks : List Nat} (h : kval ks = true) (n : Nat) : (colL ks n).length = n := by rw [(colL_perm h n).length_eq, iota_len]
theorem colL_plv {ks : List Nat} (h : kval ks = true) {n : Nat} (hn : n ≤ 200) : plv (colL ks n) = true := plv_of_perm hn (colL_perm h n)
theorem cols_short {ks : List Nat} (h : kval ks = true) (n k : Nat) : (((cols ks.length (koL ks) n).take k).flatten).length ≤ n := by
  have h1 := colL_len h n
  rw [colL, ← List.take_append_drop k (cols ks.length (koL ks) n), List.flatten_append, List.length_append] at h1
  omega
theorem cpv_yes {ks : List Nat} {n : Int} (h : cpv ks n = true) : kval ks = true ∧ ∃ m : Nat, n = (m : Int) ∧ m ≤ 200 := by
  simp only [cpv, Bool.and_eq_true, decide_eq_true_eq] at h
  exact ⟨h.1, n.toNat, by omega, by omega⟩
theorem cp_len (ks : List Nat) (n : Int) : (cp ks n).length ≤ 200 := by
  unfold cp
  split
  · rename_i h
    obtain ⟨h1, m, rfl, hm⟩ := cpv_yes h
    rw [colL_len h1]; simpa using hm
  · simp
end Go.Proofs.Ytppdikegmijfgaa
