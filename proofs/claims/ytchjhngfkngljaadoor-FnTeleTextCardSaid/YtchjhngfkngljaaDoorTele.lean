/- Three wheels together: the letters, and the tests on a machine. No condition. -/
import Derived.Test.YtchjhngfkngljaaDoorWheel
import Derived.BigQuiet
import Derived.Deep.QuietTactic
set_option linter.unusedVariables false
namespace Go.Proofs.YtchjhngfkngljaaDoor
open Go.RowKit

def let3 (x y z : ByteArray) (i : Nat) : Nat := 97 + (bitAt x i + 2 * bitAt y i + 4 * bitAt z i)
def part3 (x y z : ByteArray) (i : Nat) : Nat → Nat
  | 0 => 0
  | 1 => bitAt x i
  | 2 => bitAt x i + 2 * bitAt y i
  | _ => bitAt x i + 2 * bitAt y i + 4 * bitAt z i
theorem three_at {x y z s : ByteArray} {k : Nat} (h : [x, y, z][k]? = some s) : k < 3 := by
  have := (List.getElem?_eq_some_iff.1 h).1
  simpa using this
theorem i64_or_natT (a b : Nat) (ha : a < 9223372036854775808) (hb : b < 9223372036854775808) : bits .or .i64 (a : Int) (b : Int) = ((a ||| b : Nat) : Int) := by
  have hx : a ||| b < 2 ^ 63 := Nat.or_lt_two_pow (by omega) (by omega)
  show IntKind.i64.wrap ((BitVec.ofInt 64 (a : Int) ||| BitVec.ofInt 64 (b : Int)).toNat : Int) = _
  rw [BitVec.toNat_or, ofInt_i64T a ha, ofInt_i64T b hb, IntKind.wrap_i64]
  omega
theorem or_all : ∀ (a b c : Fin 2), 0 ||| a.val = a.val ∧ a.val ||| 2 * b.val = a.val + 2 * b.val ∧ (a.val + 2 * b.val) ||| 4 * c.val = a.val + 2 * b.val + 4 * c.val := by decide
theorem or_one {p q : Nat} {e : Int} (he : e = (q : Int)) (hp : p ≤ 7) (hq : q ≤ 7) : bits .or .i64 (p : Int) (wrap64 e) = ((p ||| q : Nat) : Int) := by
  subst he
  have : wrap64 (q : Int) = (q : Int) := by unfold wrap64; omega
  rw [this, i64_or_natT _ _ (by omega) (by omega)]
theorem or_step {x y z s : ByteArray} {i j : Nat} (hs : [x, y, z][j]? = some s) (hx : bitAt x i ≤ 1) (hy : bitAt y i ≤ 1) (hz : bitAt z i ≤ 1) :
    bits .or .i64 (part3 x y z i j : Int) (wrap64 ((48 + (bitAt s i : Int) - 48) * 2 ^ j)) = (part3 x y z i (j + 1) : Int) := by
  have hj := three_at hs
  obtain ⟨o1, o2, o3⟩ := or_all ⟨bitAt x i, by omega⟩ ⟨bitAt y i, by omega⟩ ⟨bitAt z i, by omega⟩
  simp only at o1 o2 o3
  have hj' : j = 0 ∨ j = 1 ∨ j = 2 := by omega
  have hq : ∃ q : Nat, (48 + (bitAt s i : Int) - 48) * 2 ^ j = (q : Int) ∧ q ≤ 7 ∧ part3 x y z i j ≤ 7 ∧ part3 x y z i j ||| q = part3 x y z i (j + 1) := by
    rcases hj' with rfl | rfl | rfl
    · obtain rfl : x = s := by simpa using hs
      exact ⟨bitAt x i, by omega, by omega, by show 0 ≤ 7; omega, o1⟩
    · obtain rfl : y = s := by simpa using hs
      exact ⟨2 * bitAt y i, by omega, by omega, by show bitAt x i ≤ 7; omega, o2⟩
    · obtain rfl : z = s := by simpa using hs
      exact ⟨4 * bitAt z i, by omega, by omega, by show bitAt x i + 2 * bitAt y i ≤ 7; omega, o3⟩
  obtain ⟨q, h1, h2, h3, h4⟩ := hq
  rw [or_one h1 h3 h2, h4]
end Go.Proofs.YtchjhngfkngljaaDoor
