/- Plain laws of the places along a fence. No condition. -/
import Derived.Test.YtofnknfoblkcfaaPlain17c
set_option linter.unusedVariables false
namespace Go.Proofs.Ytofnknfoblkcfaa

/-- The rail of a place. -/
def rl (R a : Nat) : Nat := if R = 1 then 0 else if a % (2 * R - 2) < R then a % (2 * R - 2) else 2 * R - 2 - a % (2 * R - 2)
def railK (R k n : Nat) : List Int := ((List.range n).filter fun a => rl R a == k).map fun a : Nat => (a : Int)
def railL (R n : Nat) : List Int := ((List.range R).map fun k => railK R k n).flatten
def rpv (r n : Int) : Bool := decide (1 ≤ r ∧ r ≤ 12) && decide (0 ≤ n ∧ n ≤ 200)
def rpl (r n : Int) : List Int := if rpv r n then railL r.toNat n.toNat else []
theorem rpv_yes {r n : Int} (h : rpv r n = true) : ∃ R N : Nat, r = (R : Int) ∧ n = (N : Int) ∧ 1 ≤ R ∧ R ≤ 12 ∧ N ≤ 200 := by
  simp only [rpv, Bool.and_eq_true, decide_eq_true_eq] at h
  exact ⟨r.toNat, n.toNat, by omega, by omega, by omega, by omega, by omega⟩
theorem rl_lt {R a : Nat} (h : 1 ≤ R) : rl R a < R := by
  unfold rl
  split
  · omega
  · rename_i h1
    have := Nat.mod_lt a (by omega : 0 < 2 * R - 2)
    split <;> omega
theorem railK_yes {R k a : Nat} (h : rl R a = k) : railK R k (a + 1) = railK R k a ++ [(a : Int)] := by
  simp [railK, List.range_succ, List.filter_append, h]
theorem railK_no {R k a : Nat} (h : rl R a ≠ k) : railK R k (a + 1) = railK R k a := by
  simp [railK, List.range_succ, List.filter_append, h]
theorem railK_len (R k n : Nat) : (railK R k n).length ≤ n := by
  unfold railK
  rw [List.length_map]
  exact Nat.le_trans (List.length_filter_le _ _) (by simp)
theorem railK_zero (R k : Nat) : railK R k 0 = [] := rfl
def rows (R n k : Nat) : List (List Int) := (List.range k).map fun j => railK R j n
theorem rows_len (R n k : Nat) : (rows R n k).length = k := by simp [rows]
theorem rows_at (R n k j : Nat) (h : j < k) : (rows R n k)[j]? = some (railK R j n) := by simp [rows, h]
theorem rows_succ (R n k : Nat) : rows R n (k + 1) = rows R n k ++ [railK R k n] := by simp [rows, List.range_succ]
theorem railL_rows (R n : Nat) : railL R n = (rows R n R).flatten := rfl
theorem flat_succ (R n k : Nat) : (rows R n (k + 1)).flatten = (rows R n k).flatten ++ railK R k n := by rw [rows_succ]; simp
theorem railK_mem {R k n : Nat} {z : Int} : z ∈ railK R k n ↔ ∃ a : Nat, z = (a : Int) ∧ a < n ∧ rl R a = k := by
  simp only [railK, List.mem_map, List.mem_filter, List.mem_range, beq_iff_eq]
  constructor
  · rintro ⟨a, ⟨h1, h2⟩, h3⟩; exact ⟨a, h3.symm, h1, h2⟩
  · rintro ⟨a, h1, h2, h3⟩; exact ⟨a, ⟨h2, h3⟩, h1.symm⟩
theorem railK_nodup (R k n : Nat) : (railK R k n).Nodup := by
  unfold railK
  refine List.Pairwise.map _ (fun a b h => ?_) ((List.nodup_range).filter _)
  omega
theorem railL_mem {R n : Nat} (hR : 1 ≤ R) {z : Int} : z ∈ railL R n ↔ z ∈ iota n := by
  simp only [railL, List.mem_flatten, List.mem_map, List.mem_range]
  rw [iota_mem]
  constructor
  · rintro ⟨l, ⟨k, hk, rfl⟩, hz⟩
    obtain ⟨a, rfl, ha, _⟩ := railK_mem.1 hz
    omega
  · intro ⟨h0, h1⟩
    exact ⟨_, ⟨rl R z.toNat, rl_lt hR, rfl⟩, railK_mem.2 ⟨z.toNat, by omega, by omega, rfl⟩⟩
theorem flat_nodup (R n k : Nat) : ((rows R n k).flatten).Nodup := by
  induction k with
  | zero => simp [rows]
  | succ k ih =>
    rw [flat_succ, List.nodup_append]
    refine ⟨ih, railK_nodup R k n, fun a ha b hb e => ?_⟩
    subst e
    obtain ⟨x, rfl, _, h2⟩ := railK_mem.1 hb
    simp only [rows, List.mem_flatten, List.mem_map, List.mem_range] at ha
    obtain ⟨l, ⟨j, hj, rfl⟩, hz⟩ := ha
    obtain ⟨y, h3, _, h4⟩ := railK_mem.1 hz
    have : x = y := by omega
    subst this
    omega
theorem railL_nodup (R n : Nat) : (railL R n).Nodup := flat_nodup R n R
theorem railL_perm {R n : Nat} (hR : 1 ≤ R) : (railL R n).Perm (iota n) := by
  rw [List.perm_ext_iff_of_nodup (railL_nodup R n) (iota_nodup n)]
  intro z
  exact railL_mem hR
theorem railL_len {R n : Nat} (hR : 1 ≤ R) : (railL R n).length = n := by rw [(railL_perm hR).length_eq, iota_len]
theorem plv_rail {R n : Nat} (hR : 1 ≤ R) (hn : n ≤ 200) : plv (railL R n) = true := plv_of_perm hn (railL_perm hR)
theorem rpl_len (r n : Int) : (rpl r n).length ≤ 200 := by
  unfold rpl
  split
  · rename_i h
    obtain ⟨R, N, rfl, rfl, h1, h2, h3⟩ := rpv_yes h
    show (railL R N).length ≤ 200
    rw [railL_len h1]; exact h3
  · simp
theorem flat_len {R n k : Nat} (hR : 1 ≤ R) (hk : k ≤ R) : ((rows R n k).flatten).length ≤ n := by
  have h := railL_len (R := R) (n := n) hR
  have : rows R n R = rows R n k ++ (rows R n R).drop k := by
    have h1 : rows R n k = (rows R n R).take k := by simp only [rows]; rw [← List.map_take, List.take_range, Nat.min_eq_left hk]
    rw [h1, List.take_append_drop]
  rw [railL_rows, this, List.flatten_append, List.length_append] at h
  omega
/-- The rail and the direction while the fence is walked along. -/
def fence (R a r : Nat) (d : Bool) : Prop := (R = 1 ∧ r = 0) ∨ (2 ≤ R ∧ r = rl R a ∧ ((d = true ∧ a % (2 * R - 2) < R) ∨ (d = false ∧ (a % (2 * R - 2) = 0 ∨ R ≤ a % (2 * R - 2)))))
theorem fence_rl {R a r : Nat} {d : Bool} (h : fence R a r d) : r = rl R a := by
  rcases h with ⟨rfl, rfl⟩ | ⟨_, h, _⟩
  · rfl
  · exact h
theorem fence_zero (R : Nat) (h : 1 ≤ R) : fence R 0 0 true := by
  by_cases h1 : R = 1
  · exact .inl ⟨h1, rfl⟩
  · refine .inr ⟨by omega, ?_, .inl ⟨rfl, by rw [Nat.zero_mod]; omega⟩⟩
    unfold rl
    rw [if_neg h1, Nat.zero_mod, if_pos (by omega)]
theorem succ_mod {a p : Nat} (hp : 0 < p) : (a + 1) % p = if a % p + 1 = p then 0 else a % p + 1 := by
  have h := Nat.mod_lt a hp
  rw [Nat.add_mod]
  by_cases h1 : p = 1
  · subst h1; simp [Nat.mod_one]
  · rw [Nat.mod_eq_of_lt (by omega : 1 < p)]
    split
    · rename_i e; rw [e, Nat.mod_self]
    · exact Nat.mod_eq_of_lt (by omega)
section
variable {R a r : Nat} {d : Bool}
theorem fence_one (h : fence 1 a r d) : fence 1 (a + 1) r d := by
  rcases h with ⟨_, h⟩ | ⟨h, _⟩
  · exact .inl ⟨rfl, h⟩
  · omega
theorem rl_eq (h : 2 ≤ R) (a : Nat) : rl R a = if a % (2 * R - 2) < R then a % (2 * R - 2) else 2 * R - 2 - a % (2 * R - 2) := by unfold rl; rw [if_neg (by omega)]
theorem fence_turn (h : fence R a r true) (h2 : 2 ≤ R) (hr : r + 1 = R) : fence R (a + 1) (r - 1) false := by
  rcases h with ⟨h, _⟩ | ⟨_, h, hd⟩
  · omega
  · rcases hd with ⟨_, hm⟩ | ⟨hd, _⟩
    · rw [rl_eq h2, if_pos hm] at h
      have hs := succ_mod (a := a) (by omega : 0 < 2 * R - 2)
      refine .inr ⟨h2, ?_, .inr ⟨rfl, ?_⟩⟩
      · rw [rl_eq h2, hs]
        split
        · rw [if_pos (by omega)]; omega
        · rw [if_neg (by omega)]; omega
      · rw [hs]
        split
        · exact .inl rfl
        · exact .inr (by omega)
    · cases hd
theorem fence_back (h : fence R a 0 false) (h2 : 2 ≤ R) : fence R (a + 1) 1 true := by
  rcases h with ⟨h, _⟩ | ⟨_, h, hd⟩
  · omega
  · rcases hd with ⟨hd, _⟩ | ⟨_, hm⟩
    · cases hd
    · have hlt := Nat.mod_lt a (by omega : 0 < 2 * R - 2)
      rw [rl_eq h2] at h
      have hm0 : a % (2 * R - 2) = 0 := by
        rcases hm with hm | hm
        · exact hm
        · rw [if_neg (by omega)] at h; omega
      have hs := succ_mod (a := a) (by omega : 0 < 2 * R - 2)
      rw [hm0, if_neg (by omega)] at hs
      refine .inr ⟨h2, ?_, .inl ⟨rfl, by omega⟩⟩
      rw [rl_eq h2, hs, if_pos (by omega)]
theorem fence_down (h : fence R a r true) (h2 : 2 ≤ R) (hr : r + 1 ≠ R) : fence R (a + 1) (r + 1) true := by
  rcases h with ⟨h, _⟩ | ⟨_, h, hd⟩
  · omega
  · rcases hd with ⟨_, hm⟩ | ⟨hd, _⟩
    · rw [rl_eq h2, if_pos hm] at h
      have hs := succ_mod (a := a) (by omega : 0 < 2 * R - 2)
      rw [if_neg (by omega)] at hs
      refine .inr ⟨h2, ?_, .inl ⟨rfl, by omega⟩⟩
      rw [rl_eq h2, hs, if_pos (by omega)]; omega
    · cases hd
theorem fence_up (h : fence R a r false) (h2 : 2 ≤ R) (hr : r ≠ 0) : fence R (a + 1) (r - 1) false := by
  rcases h with ⟨h, _⟩ | ⟨_, h, hd⟩
  · omega
  · rcases hd with ⟨hd, _⟩ | ⟨_, hm⟩
    · cases hd
    · have hlt := Nat.mod_lt a (by omega : 0 < 2 * R - 2)
      rw [rl_eq h2] at h
      have hmR : R ≤ a % (2 * R - 2) := by
        rcases hm with hm | hm
        · rw [hm, if_pos (by omega)] at h; omega
        · exact hm
      rw [if_neg (by omega)] at h
      have hs := succ_mod (a := a) (by omega : 0 < 2 * R - 2)
      refine .inr ⟨h2, ?_, .inr ⟨rfl, ?_⟩⟩
      · rw [rl_eq h2, hs]
        split
        · rw [if_pos (by omega)]; omega
        · rw [if_neg (by omega)]; omega
      · rw [hs]
        split
        · exact .inl rfl
        · exact .inr (by omega)
end
end Go.Proofs.Ytofnknfoblkcfaa
