/- Rows of cells that a call made: what is kept and what a store does. No condition. -/
import Derived.Test.YtchjhngfkngljaaDoorBase
import Derived.Laws.OwnMore
import Derived.Deep.Draws
set_option linter.unusedVariables false
namespace Go.Proofs.YtchjhngfkngljaaDoor
open Go.RowKit

theorem bthen {w w1 w2 : World} (h : Below w.heap.size w w1) (k : Below w1.heap.size w1 w2) : Below w.heap.size w w2 := h.trans (k.mono h.size)
theorem bthenB {B : Nat} {w w1 w2 : World} (h : Below B w w1) (k : Below w1.heap.size w1 w2) (hB : B ≤ w1.heap.size) : Below B w w2 := h.trans (k.mono hB)
theorem bel_drewN {B : Nat} {a w : World} (h : Below B a w) (n : Nat) : Below B a (w.drewN n) := ⟨h.os, h.tape, h.output, h.size, h.block⟩

/-- Block g is a row of element type t whose first cells are xs, none of these frozen. -/
def Buf (w : World) (g : Nat) (t : TypeId) (xs : List Value) : Prop :=
  ∃ C lo hi, w.heap[g]? = some (.cells C t (lo, hi)) ∧ (hi ≤ lo ∨ xs.length ≤ lo) ∧ ∀ (j : Nat) (u : Value), xs[j]? = some u → C[j]? = some u

section
variable {w w' : World} {g : Nat} {t : TypeId} {xs : List Value}
theorem Buf.lt (h : Buf w g t xs) : g < w.heap.size := by
  obtain ⟨C, lo, hi, h, _⟩ := h
  rcases Nat.lt_or_ge g w.heap.size with hlt | hge
  · exact hlt
  · rw [Array.getElem?_eq_none hge] at h; cases h
theorem Buf.cell (h : Buf w g t xs) {j : Nat} {u : Value} (hj : xs[j]? = some u) : w.cell? ⟨g, j, none⟩ = some u := by
  obtain ⟨C, lo, hi, h, _, hc⟩ := h
  rw [cell_of_row w g j C t _ h]; exact hc j u hj
theorem Buf.free (h : Buf w g t xs) {j : Nat} (hj : j < xs.length) : w.frozen? ⟨g, j, none⟩ = false := by
  obtain ⟨C, lo, hi, h, hf, _⟩ := h
  unfold World.frozen?
  simp only [h]
  rcases hf with hf | hf <;> simp <;> omega
theorem Buf.same (h : Buf w g t xs) (hb : w'.heap[g]? = w.heap[g]?) : Buf w' g t xs := by
  obtain ⟨C, lo, hi, h, r⟩ := h
  exact ⟨C, lo, hi, hb.trans h, r⟩
theorem Buf.drew (h : Buf w g t xs) : Buf w.drew g t xs := h
theorem Buf.drewN (h : Buf w g t xs) (n : Nat) : Buf (w.drewN n) g t xs := h
theorem Buf.alloc (h : Buf w g t xs) (o : Obj) : Buf (w.alloc o) g t xs := h.same (Below.heap_alloc w o g h.lt)
theorem Buf.far (h : Buf w g t xs) {p : Addr} (hp : g ≠ p.block) (u : Value) : Buf (w.setCell p u) g t xs := h.same (Below.heap_setCell w p u g hp)
theorem Buf.below {B : Nat} (h : Buf w g t xs) (hb : Below B w w') (hg : g < B) : Buf w' g t xs := h.same (hb.block g hg)
theorem Buf.next (h : Buf w g t xs) (hb : Below w.heap.size w w') : Buf w' g t xs := h.below hb h.lt
theorem Buf.grown {row : Option Nat} (h : Buf w g t xs) (hb : w.grownBy w' row) (hg : some g ≠ row) : Buf w' g t xs := h.same (hb.block g h.lt hg)
theorem Buf.set (h : Buf w g t xs) (k : Nat) (u : Value) : Buf (w.setCell ⟨g, k, none⟩ u) g t (xs.set k u) := by
  obtain ⟨C, lo, hi, h, hf, hc⟩ := h
  refine ⟨C.setIfInBounds k u, lo, hi, ?_, by simpa using hf, fun j v hv => ?_⟩
  · simp [World.setCell, Array.getElem?_modify, h]
  · rw [List.getElem?_set] at hv
    by_cases hkj : k = j
    · subst hkj
      have hlt : k < xs.length := by
        rcases Nat.lt_or_ge k xs.length with h1 | h1
        · exact h1
        · simp [Nat.not_lt.2 h1] at hv
      have hC : k < C.size := by
        have := hc k xs[k] (List.getElem?_eq_getElem hlt)
        exact (Array.getElem?_eq_some_iff.1 this).1
      simp [hlt] at hv
      subst hv
      simp [hC]
    · rw [if_neg hkj] at hv
      rw [Array.getElem?_setIfInBounds, if_neg hkj]
      exact hc j v hv
theorem Buf.new (w : World) (C : Array Value) (t : TypeId) (xs : List Value) (hC : ∀ (j : Nat) (u : Value), xs[j]? = some u → C[j]? = some u) (lo hi : Nat) (hf : hi ≤ lo ∨ xs.length ≤ lo) :
    Buf (w.alloc (.cells C t (lo, hi))) w.heap.size t xs := ⟨C, lo, hi, heap_alloc_new w _, hf, hC⟩
theorem Buf.shorter {ys : List Value} (h : Buf w g t (xs ++ ys)) : Buf w g t xs := by
  obtain ⟨C, lo, hi, h, hf, hc⟩ := h
  refine ⟨C, lo, hi, h, ?_, fun j u hu => hc j u ?_⟩
  · rcases hf with hf | hf
    · exact .inl hf
    · exact .inr (by rw [List.length_append] at hf; omega)
  · have hlt : j < xs.length := (List.getElem?_eq_some_iff.1 hu).1
    rw [List.getElem?_append_left hlt]; exact hu
end

/-- Bytes as cells. -/
def bcells (l : List Nat) : List Value := l.map fun c : Nat => Value.int .u8 (c : Int)
/-- Integers as cells. -/
def icells (l : List Int) : List Value := l.map fun c : Int => Value.int .i64 c
theorem bcells_at {l : List Nat} {k c : Nat} (h : l[k]? = some c) : (bcells l)[k]? = some (.int .u8 (c : Int)) := by simp [bcells, h]
theorem icells_at {l : List Int} {k : Nat} {c : Int} (h : l[k]? = some c) : (icells l)[k]? = some (.int .i64 c) := by simp [icells, h]
theorem bcells_len (l : List Nat) : (bcells l).length = l.length := by simp [bcells]
theorem icells_len (l : List Int) : (icells l).length = l.length := by simp [icells]
theorem bcells_set (l : List Nat) (k c : Nat) : (bcells l).set k (.int .u8 (c : Int)) = bcells (l.set k c) := by simp [bcells, List.map_set]
theorem icells_set (l : List Int) (k : Nat) (c : Int) : (icells l).set k (.int .i64 c) = icells (l.set k c) := by simp [icells, List.map_set]

theorem set_same {α : Type} {l : List α} {k : Nat} {x : α} (h : l[k]? = some x) : l.set k x = l := by
  obtain ⟨hk, rfl⟩ := List.getElem?_eq_some_iff.1 h
  exact List.set_getElem_self hk

/-- A list being rewritten from the left: the first k are of the new one, the rest of the old one. -/
def mix {α : Type} (new old : List α) (k : Nat) : List α := new.take k ++ old.drop k
theorem mix_zero {α : Type} (new old : List α) : mix new old 0 = old := by simp [mix]
theorem mix_all {α : Type} (new old : List α) (h : old.length ≤ new.length) : mix new old new.length = new := by
  simp [mix, List.drop_eq_nil_of_le h]
theorem mix_len {α : Type} (new old : List α) (k : Nat) (h : new.length = old.length) : (mix new old k).length = old.length := by
  simp [mix]; omega
theorem mix_at {α : Type} (new old : List α) (k : Nat) (h : new.length = old.length) (hk : k < old.length) : (mix new old k)[k]? = old[k]? := by
  unfold mix
  rw [List.getElem?_append_right (by simp; omega)]
  simp
  congr 1; omega
theorem mix_set {α : Type} (new old : List α) (k : Nat) (x : α) (h : new.length = old.length) (hx : new[k]? = some x) : (mix new old k).set k x = mix new old (k + 1) := by
  have hk : k < new.length := (List.getElem?_eq_some_iff.1 hx).1
  unfold mix
  rw [List.set_append_right _ _ (by simp; omega), List.take_succ_eq_append_getElem hk]
  have hx' : new[k] = x := by rw [List.getElem?_eq_getElem hk] at hx; injection hx
  have hl : (new.take k).length = k := by simp; omega
  rw [hl, Nat.sub_self, List.drop_eq_getElem_cons (by omega : k < old.length), List.set_cons_zero, hx', List.append_assoc]
  rfl
theorem mix_keep {α : Type} (new old : List α) (k : Nat) (x : α) (h : new.length = old.length) (hx : new[k]? = some x) (hy : old[k]? = some x) : mix new old k = mix new old (k + 1) := by
  have hk : k < old.length := (List.getElem?_eq_some_iff.1 hy).1
  rw [← mix_set new old k x h hx]
  have h2 := (mix_at new old k h hk).trans hy
  exact (set_same h2).symm
theorem take_snoc {α : Type} (l : List α) (k : Nat) (x : α) (hx : l[k]? = some x) : l.take (k + 1) = l.take k ++ [x] := by
  have hk : k < l.length := (List.getElem?_eq_some_iff.1 hx).1
  have hx' : l[k] = x := by rw [List.getElem?_eq_getElem hk] at hx; injection hx
  rw [List.take_succ_eq_append_getElem hk, hx']

/-- One more byte of a row that is rewritten from the left. -/
theorem Buf.put {w : World} {g : Nat} {t : TypeId} {new old : List Nat} {k x : Nat} {v : Int} (h : Buf w g t (bcells (mix new old k))) (hl : new.length = old.length)
    (hx : new[k]? = some x) (hv : v = (x : Int)) : Buf (w.setCell ⟨g, k, none⟩ (.int .u8 v)) g t (bcells (mix new old (k + 1))) := by
  subst hv
  have := h.set k (.int .u8 (x : Int))
  rwa [bcells_set, mix_set new old k x hl hx] at this
theorem Buf.iput {w : World} {g : Nat} {t : TypeId} {new old : List Int} {k : Nat} {v : Int} (h : Buf w g t (icells (mix new old k))) (hl : new.length = old.length)
    (hx : new[k]? = some v) : Buf (w.setCell ⟨g, k, none⟩ (.int .i64 v)) g t (icells (mix new old (k + 1))) := by
  have := h.set k (.int .i64 v)
  rwa [icells_set, mix_set new old k v hl hx] at this
theorem zipWith_at {α β γ : Type} {f : α → β → γ} {l : List α} {m : List β} {k : Nat} {a : α} {b : β} (ha : l[k]? = some a) (hb : m[k]? = some b) : (List.zipWith f l m)[k]? = some (f a b) := by
  rw [List.getElem?_zipWith, ha, hb]

/-- The three tests ahead of most functions: two words are good, and as long. -/
def g3 (x y : Bool) (n m : Nat) : Bool := x && y && (n == m)
theorem g3_no {x y : Bool} {n m : Nat} (h : g3 x y n m = false) : x = false ∨ (x = true ∧ y = false) ∨ (x = true ∧ y = true ∧ ((n : Int) != (m : Int)) = true) := by
  cases x <;> cases y <;> simp [g3] at h ⊢
  omega
theorem g3_yes {x y : Bool} {n m : Nat} (h : g3 x y n m = true) : x = true ∧ y = true ∧ n = m := by
  simp only [g3, Bool.and_eq_true, beq_iff_eq] at h; exact ⟨h.1.1, h.1.2, h.2⟩
theorem eq_len (n m : Nat) : ((n : Int) == (m : Int)) = g3 true true n m := by
  unfold g3; rw [Bool.eq_iff_iff]; simp; omega
theorem ne_no {n m : Nat} (h : n = m) : ((n : Int) != (m : Int)) = false := by rw [bne_eq_false_iff_eq]; omega

/-- A call returns a string. -/
def RetS (w : World) (l : List Nat) (e : Ending) (w' : World) : Prop := ∃ r, e = .returned (.string r) ∧ nb r = l ∧ Below w.heap.size w w'
/-- A call returns a string and a bool. -/
def RetSB (w : World) (l : List Nat) (b : Bool) (e : Ending) (w' : World) : Prop := ∃ r, e = .returned (.tuple #[.string r, .bool b]) ∧ nb r = l ∧ Below w.heap.size w w'
/-- A call returns some string, not too long. -/
def RetAny (w : World) (m : Nat) (e : Ending) (w' : World) : Prop := ∃ r, e = .returned (.string r) ∧ r.size ≤ m ∧ Below w.heap.size w w'

theorem quietly {P : Program} {f : FuncId} {args : Array Value} {w : World} {v : Value} (h : Calls P f args w fun e w' => e = .returned v ∧ w = w') :
    Calls P f args w fun e w' => e = .returned v ∧ w' = w := h.mono fun _ _ ⟨he, hw⟩ => ⟨he, hw.symm⟩
theorem nb_of_list (l : List Nat) (h : ∀ x ∈ l, x < 256) : ∃ r : ByteArray, nb r = l := by
  refine ⟨⟨(l.map UInt8.ofNat).toArray⟩, ?_⟩
  unfold nb
  simp only [List.map_map]
  conv => rhs; rw [← List.map_id l]
  apply List.map_congr_left
  intro x hx
  have := h x hx
  simp [UInt8.toNat_ofNat']
  omega
end Go.Proofs.YtchjhngfkngljaaDoor
