/- Slices of integers: reading, making, comparing, marking. No condition. -/
import Derived.Test.YtchjhngfkngljaaDoorRows
import Derived.Test.YtchjhngfkngljaaDoorMem
import Derived.Laws.MakeOwn
import Derived.Laws.IdiomStrings
import Derived.BigQuiet
import Derived.Deep.QuietTactic
set_option linter.unusedVariables false
namespace Go.Proofs.YtchjhngfkngljaaDoor
open Go.RowKit

/-- The slice value '.slice A zs.length c' reads as the numbers zs. -/
def Ints (w : World) (A : Option Addr) (zs : List Int) : Prop :=
  zs = [] ∨ ∃ b off, A = some ⟨b, off, none⟩ ∧ b < w.heap.size ∧ ∀ (j : Nat) (z : Int), zs[j]? = some z → w.cell? ⟨b, off + j, none⟩ = some (.int .i64 z)
theorem Ints.nil (w : World) (A : Option Addr) : Ints w A [] := .inl rfl
theorem Ints.next {w w' : World} {A : Option Addr} {zs : List Int} (h : Ints w A zs) (hb : Below w.heap.size w w') : Ints w' A zs := by
  rcases h with h | ⟨b, off, hA, hlt, hc⟩
  · exact .inl h
  · exact .inr ⟨b, off, hA, Nat.lt_of_lt_of_le hlt hb.size, fun j z hz => by rw [hb.cell (p := ⟨b, off + j, none⟩) hlt]; exact hc j z hz⟩
theorem Ints.below {B : Nat} {w w' : World} {A : Option Addr} {zs : List Int} (h : Ints w A zs) (hb : Below B w w') (hB : w.heap.size ≤ B) : Ints w' A zs := h.next (hb.mono hB)
/-- The address and one cell. -/
theorem Ints.at_ {w : World} {A : Option Addr} {zs : List Int} (h : Ints w A zs) {k : Nat} {z : Int} (hk : zs[k]? = some z) :
    ∃ b off, A = some ⟨b, off, none⟩ ∧ b < w.heap.size ∧ w.cell? ⟨b, off + k, none⟩ = some (.int .i64 z) := by
  rcases h with h | ⟨b, off, hA, hlt, hc⟩
  · subst h; simp at hk
  · exact ⟨b, off, hA, hlt, hc k z hk⟩
theorem Ints.addr {w : World} {A : Option Addr} {zs : List Int} (h : Ints w A zs) (hk : 0 < zs.length) :
    ∃ b off, A = some ⟨b, off, none⟩ ∧ b < w.heap.size ∧ ∀ (j : Nat) (z : Int), zs[j]? = some z → w.cell? ⟨b, off + j, none⟩ = some (.int .i64 z) := by
  rcases h with h | h
  · subst h; simp at hk
  · exact h
theorem Ints.of_buf {w : World} {g : Nat} {t : TypeId} {zs : List Int} (h : Buf w g t (icells zs)) : Ints w (some ⟨g, 0, none⟩) zs :=
  .inr ⟨g, 0, rfl, h.lt, fun j z hz => by rw [Nat.zero_add]; exact h.cell (icells_at hz)⟩
theorem mix_end {α : Type} {new old : List α} {n : Nat} (h : new.length = old.length) (hn : new.length = n) : mix new old n = new := by
  have := mix_all new old (Nat.le_of_eq h.symm)
  rwa [hn] at this
theorem get_some {α : Type} (l : List α) (k : Nat) (h : k < l.length) : ∃ x, l[k]? = some x := ⟨_, List.getElem?_eq_getElem h⟩

/-- What is known of the integers of a slice that came in. -/
theorem Ints.of_row {w : World} {a : Option Addr} {len cap : Nat} {zs : List Int} (h : IsRow .i64 w a len cap zs) :
    Ints w a (zs.take len) ∧ (zs.take len).length = len := by
  rcases h with ⟨rfl, rfl, rfl, rfl⟩ | ⟨x, rfl, hl, hm, hz, hc, hw⟩
  · exact ⟨.inl rfl, rfl⟩
  · have hlen : (zs.take len).length = len := by simp; omega
    refine ⟨?_, hlen⟩
    · by_cases h0 : len = 0
      · subst h0; exact .inl (by simp)
      · obtain ⟨b, off, spot⟩ := x
        have hc0 := hc 0 (by omega)
        have hs : spot = none := by simpa [Addr.add] using World.cell?_spot hc0
        subst hs
        have hadd : ∀ j, (⟨b, off, none⟩ : Addr).add j = ⟨b, off + j, none⟩ := fun j => by unfold Addr.add; split <;> simp_all
        refine .inr ⟨b, off, rfl, ?_, fun j z hj => ?_⟩
        · rw [hadd] at hc0; exact block_lt_of_cell hc0
        · have hjl : j < len := by have := (List.getElem?_eq_some_iff.1 hj).1; omega
          have hj2 : zs[j]? = some z := by rw [List.getElem?_take, if_pos hjl] at hj; exact hj
          have := hc j (by omega)
          rw [hadd] at this
          rw [this, List.getD_eq_getElem?_getD, hj2]; rfl

theorem info_int : (Tryd.prog.info? 3).map (fun i => (i.zero, i.size, i.bytes)) = some (some (.int .i64 0), 1, 8) := by kernel_rfl
theorem madeOne_at (z : Value) (n j : Nat) (u : Value) (h : (List.replicate n z)[j]? = some u) : (madeCells #[z] n)[j]? = some u := by
  rw [← Array.getElem?_toList, toList_madeCells_one]; exact h
/-- Two slices of integers are compared. -/
def Same (a b : List Int) : Bool := decide (a = b)

/-- A slice of integers that a call made, in blocks from B on. -/
def Own (w : World) (B : Nat) (A : Option Addr) (zs : List Int) : Prop :=
  zs = [] ∨ ∃ g, A = some ⟨g, 0, none⟩ ∧ B ≤ g ∧ Buf w g 3 (icells zs)
theorem Own.ints {w : World} {B : Nat} {A : Option Addr} {zs : List Int} (h : Own w B A zs) : Ints w A zs := by
  rcases h with h | ⟨g, rfl, _, h⟩
  · exact .inl h
  · exact Ints.of_buf h
theorem Own.next {w w' : World} {B : Nat} {A : Option Addr} {zs : List Int} (h : Own w B A zs) (hb : Below w.heap.size w w') : Own w' B A zs := by
  rcases h with h | ⟨g, hA, hB, h⟩
  · exact .inl h
  · exact .inr ⟨g, hA, hB, h.next hb⟩
theorem Own.less {w : World} {B B' : Nat} {A : Option Addr} {zs : List Int} (h : Own w B A zs) (hB' : B' ≤ B) : Own w B' A zs := by
  rcases h with h | ⟨g, hA, hB, h⟩
  · exact .inl h
  · exact .inr ⟨g, hA, by omega, h⟩
/-- The same, in blocks from lo up to hi. -/
def OwnIn (w : World) (lo hi : Nat) (A : Option Addr) (zs : List Int) : Prop :=
  zs = [] ∨ ∃ g, A = some ⟨g, 0, none⟩ ∧ lo ≤ g ∧ g < hi ∧ Buf w g 3 (icells zs)
theorem Own.into {w : World} {B : Nat} {A : Option Addr} {zs : List Int} (h : Own w B A zs) : OwnIn w B w.heap.size A zs := by
  rcases h with h | ⟨g, hA, hB, h⟩
  · exact .inl h
  · exact .inr ⟨g, hA, hB, h.lt, h⟩
theorem OwnIn.of_buf {w : World} {g : Nat} {zs : List Int} (h : Buf w g 3 (icells zs)) : OwnIn w g (g + 1) (some ⟨g, 0, none⟩) zs := .inr ⟨g, rfl, Nat.le_refl _, Nat.lt_succ_self _, h⟩
theorem OwnIn.ints {w : World} {lo hi : Nat} {A : Option Addr} {zs : List Int} (h : OwnIn w lo hi A zs) : Ints w A zs := by
  rcases h with h | ⟨g, rfl, _, _, h⟩
  · exact .inl h
  · exact Ints.of_buf h
theorem OwnIn.next {w w' : World} {lo hi : Nat} {A : Option Addr} {zs : List Int} (h : OwnIn w lo hi A zs) (hb : Below w.heap.size w w') : OwnIn w' lo hi A zs := by
  rcases h with h | ⟨g, hA, h1, h2, h⟩
  · exact .inl h
  · exact .inr ⟨g, hA, h1, h2, h.next hb⟩
/-- Only blocks from lo up to hi have changed; others may be new. -/
structure Kept (w w' : World) (lo hi : Nat) : Prop where
  os : w'.os = w.os
  tape : w'.tape = w.tape
  output : w'.output = w.output
  size : w.heap.size ≤ w'.heap.size
  block : ∀ i, i < w.heap.size → (i < lo ∨ hi ≤ i) → w'.heap[i]? = w.heap[i]?
theorem Kept.refl (w : World) (lo hi : Nat) : Kept w w lo hi := ⟨rfl, rfl, rfl, Nat.le_refl _, fun _ _ _ => rfl⟩
theorem OwnIn.kept {w w' : World} {lo hi lo' hi' : Nat} {A : Option Addr} {zs : List Int} (h : OwnIn w lo hi A zs) (k : Kept w w' lo' hi') (hd : hi ≤ lo' ∨ hi' ≤ lo) : OwnIn w' lo hi A zs := by
  rcases h with h | ⟨g, hA, h1, h2, h⟩
  · exact .inl h
  · exact .inr ⟨g, hA, h1, h2, h.same (k.block g h.lt (by omega))⟩
theorem Kept.below {w w' : World} {lo hi B : Nat} (k : Kept w w' lo hi) (h1 : B ≤ lo) (h2 : B ≤ w.heap.size) : Below B w w' := ⟨k.os, k.tape, k.output, k.size, fun i hi => k.block i (by omega) (.inl (by omega))⟩

/-- k, k+1, .. -/
def marks (k : Int) (n : Nat) : List Int := (List.range n).map fun j : Nat => k + (j : Int)
theorem marks_len (k : Int) (n : Nat) : (marks k n).length = n := by simp [marks]
theorem marks_at (k : Int) (n j : Nat) (h : j < n) : (marks k n)[j]? = some (k + (j : Int)) := by simp [marks, h]
/-- A call returns a slice of integers. -/
def RetI (w : World) (zs : List Int) (e : Ending) (w' : World) : Prop := ∃ A n c, e = .returned (.slice A n c) ∧ zs.length = n ∧ Own w' w.heap.size A zs ∧ Below w.heap.size w w'
/-- A call returns a slice of integers and a bool. -/
def RetIB (w : World) (zs : List Int) (b : Bool) (e : Ending) (w' : World) : Prop := ∃ A n c, e = .returned (.tuple #[.slice A n c, .bool b]) ∧ zs.length = n ∧ Own w' w.heap.size A zs ∧ Below w.heap.size w w'

/-- A row of the call's own as a slice that a call returns. -/
theorem own_of_row {w : World} {B n : Nat} {v : Value} {zs : List Int} (h : w.ownsRow B 3 1 v n (icells zs)) : ∃ A c, v = .slice A n c ∧ zs.length = n ∧ Own w B A zs := by
  obtain ⟨hl, h⟩ := h
  rw [icells_len, Nat.mul_one] at hl
  rcases h with ⟨rfl, rfl⟩ | ⟨g, cap, cur, rfl, hB, hh, hnc, hcm, hcs, ht⟩
  · exact ⟨none, 0, rfl, hl, .inl (List.eq_nil_of_length_eq_zero hl)⟩
  · refine ⟨_, cap, rfl, hl, .inr ⟨g, rfl, hB, cur, 0, 0, hh, .inl (Nat.le_refl _), fun j u hu => ?_⟩⟩
    rw [← ht, List.getElem?_take] at hu
    split at hu
    · rw [← Array.getElem?_toList]; exact hu
    · cases hu
theorem RetI.of_row {w w' : World} {v : Value} {n : Nat} {zs : List Int} (h : w'.ownsRow w.heap.size 3 1 v n (icells zs)) (hb : Below w.heap.size w w') : RetI w zs (.returned v) w' := by
  obtain ⟨A, c, rfl, hl, ho⟩ := own_of_row h
  exact ⟨A, n, c, rfl, hl, ho, hb⟩
theorem RetIB.of_row {w w' : World} {v : Value} {n : Nat} {zs : List Int} {b : Bool} (h : w'.ownsRow w.heap.size 3 1 v n (icells zs)) (hb : Below w.heap.size w w') : RetIB w zs b (.returned (.tuple #[v, .bool b])) w' := by
  obtain ⟨A, c, rfl, hl, ho⟩ := own_of_row h
  exact ⟨A, n, c, rfl, hl, ho, hb⟩
theorem own_kept {w w' : World} {B n : Nat} {v : Value} {xs : List Value} (h : w.ownsRow B 3 1 v n xs) (hb : Below w.heap.size w w') : w'.ownsRow B 3 1 v n xs := by
  obtain ⟨hl, h⟩ := h
  refine ⟨hl, ?_⟩
  rcases h with h | ⟨g, cap, cur, hv, hB, hh, r⟩
  · exact .inl h
  · have hlt : g < w.heap.size := by
      rcases Nat.lt_or_ge g w.heap.size with h1 | h1
      · exact h1
      · rw [Array.getElem?_eq_none h1] at hh; cases hh
    exact .inr ⟨g, cap, cur, hv, hB, (hb.block g hlt).trans hh, r⟩
theorem own_drewN {w : World} {B n : Nat} {v : Value} {xs : List Value} (h : w.ownsRow B 3 1 v n xs) (q : Nat) : (w.drewN q).ownsRow B 3 1 v n xs := h
end Go.Proofs.YtchjhngfkngljaaDoor
