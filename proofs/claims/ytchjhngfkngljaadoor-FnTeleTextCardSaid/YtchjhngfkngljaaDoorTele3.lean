/- The tapes of the wheels: both programs return what the plain functions say. No condition. -/
import Derived.Test.YtchjhngfkngljaaDoorTele2
set_option linter.unusedVariables false
namespace Go.Proofs.YtchjhngfkngljaaDoor
open Go.RowKit

def l3 (ss : List ByteArray) (i : Nat) : Nat := match ss with
  | [x, y, z] => let3 x y z i
  | _ => 97
def chiL (ss : List ByteArray) (n : Nat) : List Nat := (List.range n).map (l3 ss)
def steps (mo : ByteArray) : Nat → Nat
  | 0 => 0
  | i + 1 => steps mo i + bitAt mo i
def psiL (ss : List ByteArray) (mo : ByteArray) (n : Nat) : List Nat := (List.range n).map fun i => l3 ss (steps mo i)
theorem chiL_len (ss : List ByteArray) (n : Nat) : (chiL ss n).length = n := by simp [chiL]
theorem psiL_len (ss : List ByteArray) (mo : ByteArray) (n : Nat) : (psiL ss mo n).length = n := by simp [psiL]
theorem chiL_at (ss : List ByteArray) (n k : Nat) (h : k < n) : (chiL ss n)[k]? = some (l3 ss k) := by simp [chiL, h]
theorem psiL_at (ss : List ByteArray) (mo : ByteArray) (n k : Nat) (h : k < n) : (psiL ss mo n)[k]? = some (l3 ss (steps mo k)) := by simp [psiL, h]
theorem bitAt_le {s : ByteArray} (h : wheel (nb s) = true) (i : Nat) : bitAt s i ≤ 1 := (bitAt_spec h i).2.2
theorem steps_le {mo : ByteArray} (h : wheel (nb mo) = true) (i : Nat) : steps mo i ≤ i := by
  induction i with
  | zero => exact Nat.le_refl _
  | succ i ih => have := bitAt_le h i; show steps mo i + bitAt mo i ≤ i + 1; omega
theorem l3_bd {ss : List ByteArray} (h : wheels3 ss = true) (i : Nat) : 97 ≤ l3 ss i ∧ l3 ss i ≤ 104 := by
  obtain ⟨x, y, z, rfl, hx, hy, hz⟩ := wheels3_yes h
  have := bitAt_le hx i
  have := bitAt_le hy i
  have := bitAt_le hz i
  show 97 ≤ let3 x y z i ∧ let3 x y z i ≤ 104
  unfold let3
  omega
theorem chiL_lt {ss : List ByteArray} (h : wheels3 ss = true) (n : Nat) : ∀ x ∈ chiL ss n, x < 256 := by
  intro x hx
  simp only [chiL, List.mem_map] at hx
  obtain ⟨i, _, rfl⟩ := hx
  have := l3_bd h i
  omega
theorem psiL_lt {ss : List ByteArray} (h : wheels3 ss = true) (mo : ByteArray) (n : Nat) : ∀ x ∈ psiL ss mo n, x < 256 := by
  intro x hx
  simp only [psiL, List.mem_map] at hx
  obtain ⟨i, _, rfl⟩ := hx
  have := l3_bd h (steps mo i)
  omega
def ct (chi psi : List ByteArray) (mo : ByteArray) (z : Int) : List Nat := if tfit chi psi mo z then chiL chi z.toNat else []
def pt (chi psi : List ByteArray) (mo : ByteArray) (z : Int) : List Nat := if tfit chi psi mo z then psiL psi mo z.toNat else []
theorem tfit_yes {chi psi : List ByteArray} {mo : ByteArray} {z : Int} (h : tfit chi psi mo z = true) : wheels3 chi = true ∧ wheels3 psi = true ∧ wheel (nb mo) = true ∧ ∃ n : Nat, z = (n : Int) ∧ n ≤ 200 := by
  simp only [tfit, tvld, Bool.and_eq_true, decide_eq_true_eq] at h
  exact ⟨h.1.1.1, h.1.1.2, h.1.2, z.toNat, by omega, by omega⟩
/-- One byte is appended to a row of the call's own. -/
theorem wpList_append_u8 {ops : Array Oper} {rest : List Oper} {o : Oper} {a : Act} {Q : Exit → Act → World → Prop} (w : World) (hgd : o.guard = none) (s x : Operand)
    (ho : o.op = .call { callee := .builtin .append, args := #[s, x], argTypes := #[22, 22] }) (B : Nat) (v : Value) (n : Nat) (zs : List Nat) (z : Nat)
    (hown : w.ownsRow B 5 1 v n (bcells zs)) (hs : a.eval s = v) (hx : a.eval x = .slice (some ⟨w.heap.size, 0, none⟩) 1 1) (hn : n ≤ 1000000) (hB : B ≤ w.heap.size)
    (h : ∀ v' w', w'.ownsRow B 5 1 v' (n + 1) (bcells (zs ++ [z])) → Below B w w' → wpList Tryd.prog ops Q rest (a.put o.dst v') w') :
    wpList Tryd.prog ops Q (o :: rest) a (w.alloc (.cells #[.int .u8 (z : Int)] 5)) := by
  obtain ⟨i0, hi, hz0, hz1, hz2⟩ := info_parts info_u8T
  refine wpList_append_own _ hgd s x 22 ho B 5 i0 (.int .u8 0) 1 1 Tryd.underlying22 hi hz0 hz1 hz2 rfl (by decide) v n (bcells zs) hs (hown.alloc _) ⟨w.heap.size, 0, none⟩ 1 1 [.int .u8 (z : Int)] hx rfl ?_ ?_ ?_ ?_ ?_ ?_
  · intro j u hj
    match j, hj with
    | 0, hj =>
      simp at hj
      subst hj
      rw [show (⟨w.heap.size, 0, none⟩ : Addr).add 0 = ⟨w.heap.size, 0, none⟩ from rfl, World.cell?_alloc_mark]
      rfl
  · intro u hu
    simp at hu
    subst hu
    rfl
  · unfold maxLen; omega
  · omega
  · simp; omega
  · intro v' w' hown' hg _
    refine h v' w' (by simpa [bcells] using hown') ?_
    refine Below.grown ((Below.refl _ _).alloc hB _) hg (by simp; omega) (fun k hk => ?_)
    exact (hown.lt k hk).1
theorem make_roomB (n : Nat) (hn : n ≤ 4194304) (w : World) : ∃ w1, (Instr.makeSlice 22 (.int .i64 0) (.int .i64 (n : Int))).run Tryd.prog w = .ok (.slice (some ⟨w.heap.size, 0, none⟩) 0 n) w1 ∧
    w1.ownsRow w.heap.size 5 1 (.slice (some ⟨w.heap.size, 0, none⟩) 0 n) 0 [] ∧ Below w.heap.size w w1 ∧ w.heap.size < w1.heap.size := by
  obtain ⟨i0, hi, hz0, hz1, hz2⟩ := info_parts info_u8T
  have hr := run_make (P := Tryd.prog) w 22 5 i0 _ Tryd.underlying22 hi hz0 .i64 .i64 0 n (by omega) (by omega) (by rw [hz2]; omega) (by omega)
  rw [hz1] at hr
  simp only [Int.toNat_natCast, Nat.mul_one] at hr
  refine ⟨_, hr, World.ownsRow_made w _ n (Nat.le_refl _) (by unfold maxLen; omega) (by simp [madeCells]), (Below.refl _ _).alloc (Nat.le_refl _) _, by simp⟩
theorem brow_buf {w : World} {B n : Nat} {v : Value} {l : List Nat} (h : w.ownsRow B 5 1 v n (bcells l)) (hv : v ≠ .slice none 0 0) : ∃ g c, v = .slice (some ⟨g, 0, none⟩) n c ∧ l.length = n ∧ Buf w g 5 (bcells l) := by
  obtain ⟨hl, h⟩ := h
  rw [bcells_len, Nat.mul_one] at hl
  rcases h with ⟨rfl, rfl⟩ | ⟨g, cap, cur, rfl, hB, hh, hnc, hcm, hcs, ht⟩
  · exact absurd rfl hv
  · refine ⟨g, cap, rfl, hl, cur, 0, 0, hh, .inl (Nat.le_refl _), fun j u hu => ?_⟩
    rw [← ht, List.getElem?_take] at hu
    split at hu
    · rw [← Array.getElem?_toList]; exact hu
    · cases hu
theorem brow_some {w : World} {B n : Nat} {v : Value} {xs : List Value} (h : w.ownsRow B 5 1 v (n + 1) xs) : v ≠ .slice none 0 0 := by
  obtain ⟨hl, h⟩ := h
  rcases h with ⟨_, h0⟩ | ⟨g, cap, cur, rfl, _⟩
  · cases h0
  · intro e; cases e
/-- The block of a machine that is held in a variable. -/
def tcells (A : Option Addr) (n c : Nat) (B : Option Addr) (m d : Nat) (mo : ByteArray) : List Value := [.slice A n c, .slice B m d, .string mo]
theorem tbox (w : World) (A : Option Addr) (n c : Nat) (B : Option Addr) (m d : Nat) (mo : ByteArray) : Buf (w.alloc (.cells #[.slice A n c, .slice B m d, .string mo] 25)) w.heap.size 25 (tcells A n c B m d mo) :=
  Buf.new w _ _ _ (fun j u hu => by simpa [tcells] using hu) 0 0 (.inl (Nat.le_refl _))
end Go.Proofs.YtchjhngfkngljaaDoor
