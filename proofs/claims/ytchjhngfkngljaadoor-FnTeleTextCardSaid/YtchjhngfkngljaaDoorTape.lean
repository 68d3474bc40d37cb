/- Tapes: the tests, the sums and the changes return what the plain ones say. No condition. -/
import Derived.Test.YtchjhngfkngljaaDoorWords
import Derived.Test.YtchjhngfkngljaaDoorInts
import Derived.StillTailTactics
import Derived.Deep.RegionWith
set_option linter.unusedVariables false
namespace Go.Proofs.YtchjhngfkngljaaDoor
open Go.RowKit

theorem ofInt_i64T (a : Nat) (ha : a < 9223372036854775808) : (BitVec.ofInt 64 (a : Int)).toNat = a := by
  rw [BitVec.ofInt_natCast, BitVec.toNat_ofNat]; exact Nat.mod_eq_of_lt (by omega)
theorem i64_xor_natT (a b : Nat) (ha : a < 9223372036854775808) (hb : b < 9223372036854775808) : bits .xor .i64 (a : Int) (b : Int) = ((a ^^^ b : Nat) : Int) := by
  have hx : a ^^^ b < 2 ^ 63 := Nat.xor_lt_two_pow (by omega) (by omega)
  show IntKind.i64.wrap ((BitVec.ofInt 64 (a : Int) ^^^ BitVec.ofInt 64 (b : Int)).toNat : Int) = _
  rw [BitVec.toNat_xor, ofInt_i64T a ha, ofInt_i64T b hb, IntKind.wrap_i64]
  omega
def isT (c : Nat) : Bool := decide (97 ≤ c ∧ c < 105)
def tv (l : List Nat) : Bool := decide (l.length ≤ 200) && l.all isT
theorem isT_bd {c : Nat} (h : isT c = true) : 97 ≤ c ∧ c ≤ 104 := by unfold isT at h; rw [decide_eq_true_eq] at h; omega
theorem isT_no {c : Nat} (h : isT c = false) : c < 97 ∨ 105 ≤ c := by unfold isT at h; rw [decide_eq_false_iff_not] at h; omega
theorem isT_L {c : Nat} (h : isT c = true) : isL c = true := by have := isT_bd h; unfold isL; rw [decide_eq_true_eq]; omega
theorem tv_len {l : List Nat} (h : tv l = true) : l.length ≤ 200 := by simp only [tv, Bool.and_eq_true, decide_eq_true_eq] at h; exact h.1
theorem tv_at {l : List Nat} {k c : Nat} (h : tv l = true) (hc : l[k]? = some c) : 97 ≤ c ∧ c ≤ 104 := by
  simp only [tv, Bool.and_eq_true, decide_eq_true_eq, List.all_eq_true] at h
  exact isT_bd (h.2 c (List.mem_of_getElem? hc))
theorem tv_mk {l : List Nat} (h1 : l.length ≤ 200) (h2 : ∀ (k c : Nat), l[k]? = some c → 97 ≤ c ∧ c ≤ 104) : tv l = true := by
  simp only [tv, Bool.and_eq_true, decide_eq_true_eq, List.all_eq_true]
  refine ⟨h1, fun c hc => ?_⟩
  obtain ⟨k, hk, rfl⟩ := List.mem_iff_getElem.1 hc
  have := h2 k _ (List.getElem?_eq_getElem hk)
  unfold isT; rw [decide_eq_true_eq]; omega
theorem tv_wv {l : List Nat} (h : tv l = true) : wv l = true := by
  simp only [tv, Bool.and_eq_true, decide_eq_true_eq, List.all_eq_true] at h
  simp only [wv, Bool.and_eq_true, decide_eq_true_eq, List.all_eq_true]
  exact ⟨h.1, fun c hc => isT_L (h.2 c hc)⟩
theorem tv_notwv {l : List Nat} (h : wv l = false) : tv l = false := by
  cases h2 : tv l
  · rfl
  · rw [tv_wv h2] at h; cases h
/-- The bitwise sum of two letters. -/
def xor1 (c d : Nat) : Nat := 97 + ((c - 97) ^^^ (d - 97))
def xorL (v w : List Nat) : List Nat := List.zipWith xor1 v w
def xtOk (v w : List Nat) : Bool := g3 (tv v) (tv w) v.length w.length
def xt (v w : List Nat) : List Nat := if xtOk v w then xorL v w else []
def deltaL (l : List Nat) : List Nat := xorL (l.take (l.length - 1)) (l.drop 1)
def dt (l : List Nat) : List Nat := if tv l then deltaL l else []
theorem xor1_bd {c d : Nat} (hc1 : 97 ≤ c) (hc : c ≤ 104) (hd1 : 97 ≤ d) (hd : d ≤ 104) : 97 ≤ xor1 c d ∧ xor1 c d ≤ 104 := by
  unfold xor1
  have : (c - 97) ^^^ (d - 97) < 2 ^ 3 := Nat.xor_lt_two_pow (by omega) (by omega)
  omega
theorem xor1_int {c d : Nat} (hc1 : 97 ≤ c) (hc : c ≤ 104) (hd1 : 97 ≤ d) (hd : d ≤ 104) : bits .xor .i64 ((c : Int) - 97) ((d : Int) - 97) = ((xor1 c d : Nat) : Int) - 97 := by
  have e1 : (c : Int) - 97 = ((c - 97 : Nat) : Int) := by omega
  have e2 : (d : Int) - 97 = ((d - 97 : Nat) : Int) := by omega
  rw [e1, e2, i64_xor_natT _ _ (by omega) (by omega)]
  unfold xor1
  omega
theorem xorL_lt {v w : List Nat} (h : ∀ (k c d : Nat), v[k]? = some c → w[k]? = some d → 97 ≤ c ∧ c ≤ 104 ∧ 97 ≤ d ∧ d ≤ 104) : ∀ x ∈ xorL v w, x < 256 := by
  intro x hx
  obtain ⟨k, hk, rfl⟩ := List.mem_iff_getElem.1 hx
  have hl : k < v.length ∧ k < w.length := by simp [xorL] at hk; omega
  obtain ⟨h1, h2, h3, h4⟩ := h k _ _ (List.getElem?_eq_getElem hl.1) (List.getElem?_eq_getElem hl.2)
  have := xor1_bd h1 h2 h3 h4
  simp only [xorL, List.getElem_zipWith]
  omega

theorem info_u8T : (Tryd.prog.info? 5).map (fun i => (i.zero, i.size, i.bytes)) = some (some (.int .u8 0), 1, 1) := by kernel_rfl
theorem make_bytesT (n : Nat) (hn : n ≤ 4194304) (w : World) : ∃ w1, (Instr.makeSlice 22 (.int .i64 (n : Int)) (.int .i64 (n : Int))).run Tryd.prog w = .ok (.slice (some ⟨w.heap.size, 0, none⟩) n n) w1 ∧
    Buf w1 w.heap.size 5 (bcells (List.replicate n 0)) ∧ Below w.heap.size w w1 ∧ w.heap.size < w1.heap.size := by
  obtain ⟨i0, hi, hz0, hz1, hz2⟩ := info_parts info_u8T
  have hr := run_make (P := Tryd.prog) w 22 5 i0 _ Tryd.underlying22 hi hz0 .i64 .i64 n n (by omega) (by omega) (by rw [hz2]; omega) (by omega)
  rw [hz1] at hr
  simp only [Int.toNat_natCast, Nat.mul_one] at hr
  refine ⟨_, hr, Buf.new w _ _ _ (fun j u hu => ?_) 0 0 (.inl (Nat.le_refl _)), (Below.refl _ _).alloc (Nat.le_refl _) _, by simp⟩
  refine madeOne_at _ _ _ _ ?_
  simpa [bcells] using hu

end Go.Proofs.YtchjhngfkngljaaDoor
