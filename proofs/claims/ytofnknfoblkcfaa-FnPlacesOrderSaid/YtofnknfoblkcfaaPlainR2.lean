/- Plain laws of the places along a fence: their order; one rail, two rails, as many rails as letters; joined orders. No condition. -/
import Derived.Test.YtofnknfoblkcfaaPlainR
set_option linter.unusedVariables false
namespace Go.Proofs.Ytofnknfoblkcfaa

/-- A list that ascends in a strict order is determined by its members. -/
theorem asc_eq {r : Int → Int → Prop} (has : ∀ a b, r a b → r b a → False) : ∀ {l m : List Int}, l.Pairwise r → m.Pairwise r → l.Perm m → l = m
  | [], m, _, _, h => by rw [List.nil_perm.1 h]
  | a :: l, m, hl, hm, h => by
    match m, hm, h with
    | [], _, h => simp at h
    | b :: m, hm, h =>
      have hl' := List.pairwise_cons.1 hl
      have hm' := List.pairwise_cons.1 hm
      have hab : a = b := by
        have ha : a ∈ b :: m := h.subset (by simp)
        have hb : b ∈ a :: l := h.symm.subset (by simp)
        rcases List.mem_cons.1 ha with e | ha
        · exact e
        · rcases List.mem_cons.1 hb with e | hb
          · exact e.symm
          · exact (has _ _ (hl'.1 b hb) (hm'.1 a ha)).elim
      subst hab
      rw [asc_eq has hl'.2 hm'.2 (List.Perm.cons_inv h)]
/-- By rails, and on a rail from left to right. -/
def rlt (R : Nat) (a b : Int) : Prop := rl R a.toNat < rl R b.toNat ∨ (rl R a.toNat = rl R b.toNat ∧ a < b)
theorem rlt_asymm (R : Nat) (a b : Int) (h : rlt R a b) (h' : rlt R b a) : False := by unfold rlt at h h'; omega
theorem railK_sorted (R k n : Nat) : (railK R k n).Pairwise (rlt R) := by
  unfold railK
  have h1 : ((List.range n).filter fun a => rl R a == k).Pairwise (· < ·) := List.Pairwise.filter _ List.pairwise_lt_range
  have h2 : ((List.range n).filter fun a => rl R a == k).Pairwise (fun (a b : Nat) => rlt R (a : Int) (b : Int)) := by
    refine List.Pairwise.imp_of_mem ?_ h1
    intro a b ha hb hab
    have e1 : rl R a = k := by simpa using (List.mem_filter.1 ha).2
    have e2 : rl R b = k := by simpa using (List.mem_filter.1 hb).2
    refine .inr ⟨?_, by omega⟩
    simp only [Int.toNat_natCast]
    rw [e1, e2]
  exact List.Pairwise.map _ (fun a b h => h) h2
theorem rows_sorted (R n k : Nat) : ((rows R n k).flatten).Pairwise (rlt R) := by
  induction k with
  | zero => simp [rows]
  | succ k ih =>
    rw [flat_succ, List.pairwise_append]
    refine ⟨ih, railK_sorted R k n, fun a ha b hb => ?_⟩
    simp only [rows, List.mem_flatten, List.mem_map, List.mem_range] at ha
    obtain ⟨l, ⟨j, hj, rfl⟩, ha⟩ := ha
    obtain ⟨x, rfl, _, hx⟩ := railK_mem.1 ha
    obtain ⟨y, rfl, _, hy⟩ := railK_mem.1 hb
    refine .inl ?_
    simp only [Int.toNat_natCast]
    omega
theorem railL_sorted (R n : Nat) : (railL R n).Pairwise (rlt R) := rows_sorted R n R
theorem iota_asc {r : Int → Int → Prop} {n : Nat} (h : ∀ a b : Nat, a < b → b < n → r (a : Int) (b : Int)) : (iota n).Pairwise r := by
  rw [List.pairwise_iff_getElem]
  intro i j hi hj hij
  rw [iota_len] at hi hj
  rw [(List.getElem?_eq_some_iff.1 (iota_at n i hi)).2, (List.getElem?_eq_some_iff.1 (iota_at n j hj)).2]
  exact h i j hij hj
theorem rail_one (n : Nat) : railL 1 n = iota n :=
  asc_eq (rlt_asymm 1) (railL_sorted 1 n) (iota_asc fun a b hab _ => .inr ⟨by simp [rl], by omega⟩) (railL_perm (by omega))
theorem rl_small {R a : Nat} (h : a < R) (h2 : 2 ≤ R) : rl R a = a := by
  unfold rl
  rw [if_neg (by omega), Nat.mod_eq_of_lt (by omega), if_pos h]
theorem rail_wide {R n : Nat} (hR : 1 ≤ R) (h : n ≤ R) : railL R n = iota n := by
  rcases Nat.lt_or_ge 1 R with h1 | h1
  · refine asc_eq (rlt_asymm R) (railL_sorted R n) (iota_asc fun a b hab hb => .inl ?_) (railL_perm hR)
    rw [Int.toNat_natCast, Int.toNat_natCast, rl_small (by omega) h1, rl_small (by omega) h1]; exact hab
  · obtain rfl : R = 1 := by omega
    exact rail_one n
/-- The even places before the odd ones. -/
def evod (n : Nat) : List Int := (List.range n).map fun i => if i < (n + 1) / 2 then ((2 * i : Nat) : Int) else ((2 * (i - (n + 1) / 2) + 1 : Nat) : Int)
theorem evod_len (n : Nat) : (evod n).length = n := by simp [evod]
theorem evod_at (n i : Nat) (h : i < n) : (evod n)[i]? = some (if i < (n + 1) / 2 then ((2 * i : Nat) : Int) else ((2 * (i - (n + 1) / 2) + 1 : Nat) : Int)) := by simp [evod, h]
theorem rl_two (a : Nat) : rl 2 a = a % 2 := by
  unfold rl
  rw [if_neg (by omega), show 2 * 2 - 2 = 2 from rfl, if_pos (Nat.mod_lt a (by omega))]
theorem evod_sorted (n : Nat) : (evod n).Pairwise (rlt 2) := by
  rw [List.pairwise_iff_getElem]
  intro i j hi hj hij
  rw [evod_len] at hi hj
  rw [(List.getElem?_eq_some_iff.1 (evod_at n i hi)).2, (List.getElem?_eq_some_iff.1 (evod_at n j hj)).2]
  unfold rlt
  split
  · split
    · rw [Int.toNat_natCast, Int.toNat_natCast, rl_two, rl_two]; omega
    · rw [Int.toNat_natCast, Int.toNat_natCast, rl_two, rl_two]; omega
  · split
    · omega
    · rw [Int.toNat_natCast, Int.toNat_natCast, rl_two, rl_two]; omega
theorem evod_perm (n : Nat) : (evod n).Perm (iota n) := by
  refine perm_of_sub _ _ ((evod_sorted n).imp fun {a b} h e => ?_) (fun z hz => ?_) (by rw [evod_len, iota_len]; exact Nat.le_refl _)
  · subst e; exact rlt_asymm 2 _ _ h h
  · obtain ⟨i, hi⟩ := List.getElem?_of_mem hz
    have hil : i < n := by have := (List.getElem?_eq_some_iff.1 hi).1; rwa [evod_len] at this
    rw [evod_at n i hil] at hi
    injection hi with hi
    rw [iota_mem]
    split at hi <;> omega
theorem rail_two (n : Nat) : railL 2 n = evod n :=
  asc_eq (rlt_asymm 2) (railL_sorted 2 n) (evod_sorted n) ((railL_perm (by omega)).trans (evod_perm n).symm)
theorem rpl_yes {R N : Nat} (h1 : 1 ≤ R) (h2 : R ≤ 12) (h3 : N ≤ 200) : rpl (R : Int) (N : Int) = railL R N := by
  have : rpv (R : Int) (N : Int) = true := by rw [rpv, Bool.and_eq_true, decide_eq_true_eq, decide_eq_true_eq]; omega
  rw [rpl, this, if_pos rfl, Int.toNat_natCast, Int.toNat_natCast]
/-- The rails, one place after the other. -/
def rlL (R n : Nat) : List Int := (List.range n).map fun i => (rl R i : Int)
theorem rlL_len (R n : Nat) : (rlL R n).length = n := by simp [rlL]
theorem rlL_at (R n i : Nat) (h : i < n) : (rlL R n)[i]? = some (rl R i : Int) := by simp [rlL, h]
theorem fence_top {R a r : Nat} {d : Bool} (h : fence R a r d) (h2 : 2 ≤ R) (hr : r + 1 = R) : d = true := by
  unfold fence at h
  rcases h with ⟨h, _⟩ | ⟨_, he, h | ⟨_, h⟩⟩
  · omega
  · exact h.1
  · rw [rl_eq h2] at he
    split at he <;> omega
end Go.Proofs.Ytofnknfoblkcfaa
