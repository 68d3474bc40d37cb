/- Plain words: a Go string read as a list of numbers. No condition. -/
import Derived.WalkKit
import Derived.WalkSpells
import Derived.WalkLawsBesides
import Derived.Lib.Hide
set_option linter.unusedVariables false
namespace Go.Proofs.YtchjhngfkngljaaDoor
open Go.RowKit

/-- The bytes of a string, as numbers. -/
def nb (s : ByteArray) : List Nat := s.data.toList.map UInt8.toNat
theorem nb_length (s : ByteArray) : (nb s).length = s.size := by unfold nb; rw [List.length_map]; rfl
theorem nb_get (s : ByteArray) (k : Nat) (h : k < s.size) : (nb s)[k]'(by rw [nb_length]; exact h) = s[k].toNat := by
  simp [nb]; rfl
theorem nb_get? (s : ByteArray) (k : Nat) (h : k < s.size) : (nb s)[k]? = some s[k].toNat := by
  rw [List.getElem?_eq_getElem (by rw [nb_length]; exact h), nb_get s k h]
theorem nb_inj {s t : ByteArray} (h : nb s = nb t) : s = t := by
  have h1 : s.data.toList = t.data.toList := by
    have := List.map_inj_right (f := UInt8.toNat) (fun _ _ h => UInt8.toNat_inj.1 h) |>.1 h
    exact this
  have h2 : s.data = t.data := by simpa using congrArg List.toArray h1
  cases s; cases t; simp_all
theorem nb_lt {s : ByteArray} : ∀ x ∈ nb s, x < 256 := by
  intro x hx
  simp [nb] at hx
  obtain ⟨a, _, rfl⟩ := hx
  exact a.toNat_lt
theorem nb_append (s t : ByteArray) : nb (s ++ t) = nb s ++ nb t := by
  simp [nb]
theorem nb_extract (s : ByteArray) (a b : Nat) : nb (s.extract a b) = ((nb s).take b).drop a := by
  simp [nb, ← List.map_drop, ← List.map_take, List.drop_take]
theorem nb_one (s : ByteArray) (k : Nat) (h : k < s.size) : nb (s.extract k (k + 1)) = [s[k].toNat] := by
  rw [nb_extract]
  apply List.ext_getElem?
  intro i
  rw [List.getElem?_drop, List.getElem?_take]
  rcases Nat.eq_zero_or_pos i with rfl | h0
  · rw [if_pos (by omega), Nat.add_zero, nb_get? s k h]; rfl
  · rw [if_neg (by omega)]; symm; rw [List.getElem?_eq_none]; simp; omega
theorem nb_empty : nb ByteArray.empty = [] := rfl

/-- A letter of the alphabet. -/
def isL (c : Nat) : Bool := decide (97 ≤ c ∧ c < 107)
/-- A letter or a gap. -/
def isP (c : Nat) : Bool := c == 45 || isL c
def wv (l : List Nat) : Bool := decide (l.length ≤ 200) && l.all isL
def pv (l : List Nat) : Bool := decide (l.length ≤ 200) && l.all isP

/-- The first k of a list pass a test. -/
def upto (p : Nat → Bool) (l : List Nat) (k : Nat) : Prop := ∀ j, j < k → ∀ c, l[j]? = some c → p c = true
theorem upto_zero (p : Nat → Bool) (l : List Nat) : upto p l 0 := fun j h => absurd h (by omega)
theorem upto_succ {p : Nat → Bool} {l : List Nat} {k c : Nat} (h : upto p l k) (hc : l[k]? = some c) (hp : p c = true) : upto p l (k + 1) := by
  intro j hj d hd
  rcases Nat.lt_or_ge j k with h1 | h1
  · exact h j h1 d hd
  · obtain rfl : j = k := by omega
    rw [hc] at hd; injection hd with hd; exact hd ▸ hp
theorem upto_all {p : Nat → Bool} {l : List Nat} (h : upto p l l.length) : l.all p = true := by
  rw [List.all_eq_true]
  intro x hx
  obtain ⟨j, hj, rfl⟩ := List.mem_iff_getElem.1 hx
  exact h j hj _ (List.getElem?_eq_getElem hj)
theorem not_all {p : Nat → Bool} {l : List Nat} {k c : Nat} (hc : l[k]? = some c) (hp : p c = false) : l.all p = false := by
  rw [List.all_eq_false]
  exact ⟨c, List.mem_of_getElem? hc, by simp [hp]⟩
theorem isP_gap {c : Nat} (h : ((c : Int) != 45) = false) : isP c = true := by
  rw [bne_eq_false_iff_eq] at h
  simp [isP]; omega
theorem isP_no {c : Nat} (h : ((c : Int) != 45) = true) (h2 : isL c = false) : isP c = false := by
  rw [bne_iff_ne] at h
  simp [isP, h2]; omega
theorem isP_letter {c : Nat} (h2 : isL c = true) : isP c = true := by simp [isP, h2]
theorem isL_dec {c : Nat} (h : (97 : Int) ≤ (c : Int)) : decide ((c : Int) < 107) = isL c := by unfold isL; rw [decide_eq_decide]; omega
theorem isL_low {c : Nat} (h : ¬ (97 : Int) ≤ (c : Int)) : false = isL c := by unfold isL; symm; rw [decide_eq_false_iff_not]; omega
theorem isL_in0 {c : Nat} (h : isL c = false) : decide ((0 : Int) ≤ (c : Int) - 97 ∧ (c : Int) - 97 ≤ 9) = false := by
  unfold isL at h; rw [decide_eq_false_iff_not] at h ⊢; omega
theorem isL_in1 {c : Nat} (h : isL c = true) : decide ((0 : Int) ≤ (c : Int) - 97 ∧ (c : Int) - 97 ≤ 9) = true := by
  unfold isL at h; rw [decide_eq_true_eq] at h ⊢; omega
theorem isL_bd {c : Nat} (h : isL c = true) : 97 ≤ c ∧ c ≤ 106 := by
  unfold isL at h; rw [decide_eq_true_eq] at h; omega
theorem wv_at {l : List Nat} {k c : Nat} (h : wv l = true) (hc : l[k]? = some c) : 97 ≤ c ∧ c ≤ 106 := by
  simp only [wv, Bool.and_eq_true] at h
  exact isL_bd (List.all_eq_true.1 h.2 c (List.mem_of_getElem? hc))
theorem wv_len {l : List Nat} (h : wv l = true) : l.length ≤ 200 := by simp only [wv, Bool.and_eq_true, decide_eq_true_eq] at h; exact h.1
theorem pv_at {l : List Nat} {k c : Nat} (h : pv l = true) (hc : l[k]? = some c) : c = 45 ∨ (97 ≤ c ∧ c ≤ 106) := by
  simp only [pv, Bool.and_eq_true] at h
  have := List.all_eq_true.1 h.2 c (List.mem_of_getElem? hc)
  simp only [isP, Bool.or_eq_true, beq_iff_eq] at this
  rcases this with h1 | h1
  · exact .inl h1
  · exact .inr (isL_bd h1)
theorem pv_len {l : List Nat} (h : pv l = true) : l.length ≤ 200 := by simp only [pv, Bool.and_eq_true, decide_eq_true_eq] at h; exact h.1
theorem ret_bool {a b : Bool} (h : a = b) : Ending.returned (.bool a) = .returned (.bool b) := by rw [h]
theorem ret_int {k : IntKind} {a b : Int} (h : a = b) : Ending.returned (.int k a) = .returned (.int k b) := by rw [h]
/-- What a walk is told of a slice of integers that came in (after the guide's shell): it is nil; or it leads to a row of 'cap' cells, the numbers 'zs', each fitting its kind. -/
def IsRow (k : IntKind) (w : World) (a : Option Addr) (len cap : Nat) (zs : List Int) : Prop :=
  (a = none ∧ len = 0 ∧ cap = 0 ∧ zs = []) ∨
  ∃ x, a = some x ∧ len ≤ cap ∧ cap ≤ maxLen ∧ zs.length = cap ∧ (∀ i, i < zs.length → w.cell? (x.add i) = some (.int k (zs.getD i 0))) ∧ ∀ n ∈ zs, (Lit.int k n).wf = true
theorem IsRow.len_le {k : IntKind} {w : World} {a : Option Addr} {len cap : Nat} {zs : List Int} (h : IsRow k w a len cap zs) : len ≤ 9223372036854775807 := by
  rcases h with ⟨_, rfl, _, _⟩ | ⟨x, _, h1, h2, _⟩
  · omega
  · unfold maxLen at h2; omega
end Go.Proofs.YtchjhngfkngljaaDoor
