/- Reading a word in an order of places: both programs return what the plain function says. No condition. -/
import Derived.Test.YtofnknfoblkcfaaPlaces
import Derived.Test.YtofnknfoblkcfaaWords
set_option linter.unusedVariables false
namespace Go.Proofs.Ytofnknfoblkcfaa
open Go.RowKit

theorem g3_no' {x y : Bool} {n m : Nat} (h : g3 x y n m = false) : x = false ∨ (x = true ∧ y = false) ∨ (x = true ∧ y = true ∧ ((m : Int) != (n : Int)) = true) := by
  rcases g3_no h with h | h | ⟨h1, h2, h3⟩
  · exact .inl h
  · exact .inr (.inl h)
  · exact .inr (.inr ⟨h1, h2, by rw [bne_iff_ne] at h3 ⊢; omega⟩)
/-- The letters of a word in an order of its places. -/
def readL (l : List Nat) (zs : List Int) : List Nat := zs.map fun z => l.getD z.toNat 0
def rpOk (l : List Nat) (zs : List Int) : Bool := g3 (wv l) (plv zs) l.length zs.length
def rp (l : List Nat) (zs : List Int) : List Nat := if rpOk l zs then readL l zs else []
theorem readL_len (l : List Nat) (zs : List Int) : (readL l zs).length = zs.length := by simp [readL]
theorem readL_at {l : List Nat} {zs : List Int} {k z c : Nat} (hz : zs[k]? = some (z : Int)) (hc : l[z]? = some c) : (readL l zs)[k]? = some c := by
  simp [readL, hz, List.getD_eq_getElem?_getD, hc]
theorem readL_lt {l : List Nat} (zs : List Int) (h : ∀ x ∈ l, x < 256) : ∀ x ∈ readL l zs, x < 256 := by
  intro x hx
  simp only [readL, List.mem_map] at hx
  obtain ⟨z, _, rfl⟩ := hx
  rw [List.getD_eq_getElem?_getD]
  cases hc : l[z.toNat]? with
  | none => simp
  | some c => simpa using h c (List.mem_of_getElem? hc)
theorem info_u8 : (Try.prog.info? 5).map (fun i => (i.zero, i.size, i.bytes)) = some (some (.int .u8 0), 1, 1) := by kernel_rfl
theorem make_bytes (n : Nat) (hn : n ≤ 4194304) (w : World) : ∃ w1, (Instr.makeSlice 27 (.int .i64 (n : Int)) (.int .i64 (n : Int))).run Try.prog w = .ok (.slice (some ⟨w.heap.size, 0, none⟩) n n) w1 ∧
    Buf w1 w.heap.size 5 (bcells (List.replicate n 0)) ∧ Below w.heap.size w w1 ∧ w.heap.size < w1.heap.size := by
  obtain ⟨i0, hi, hz0, hz1, hz2⟩ := info_parts info_u8
  have hr := run_make (P := Try.prog) w 27 5 i0 _ Try.underlying27 hi hz0 .i64 .i64 n n (by omega) (by omega) (by rw [hz2]; omega) (by omega)
  rw [hz1] at hr
  simp only [Int.toNat_natCast, Nat.mul_one] at hr
  refine ⟨_, hr, Buf.new w _ _ _ (fun j u hu => ?_) 0 0 (.inl (Nat.le_refl _)), (Below.refl _ _).alloc (Nat.le_refl _) _, by simp⟩
  refine madeOne_at _ _ _ _ ?_
  simpa [bcells] using hu

end Go.Proofs.Ytofnknfoblkcfaa
