/- The draws of the laws on machines. No condition. -/
import Derived.Test.YtchjhngfkngljaaDoorDrawT3
set_option linter.unusedVariables false
namespace Go.Proofs.YtchjhngfkngljaaDoor
open Go.RowKit

theorem IsRow.next {k : IntKind} {w w' : World} {a : Option Addr} {len cap : Nat} {zs : List Int} (h : IsRow k w a len cap zs) (hb : Below w.heap.size w w') : IsRow k w' a len cap zs := by
  rcases h with h | ⟨x, ha, hl, hm, hz, hc, hw⟩
  · exact .inl h
  · refine .inr ⟨x, ha, hl, hm, hz, fun i hi => ?_, hw⟩
    have h1 := hc i hi
    rw [hb.cell (block_lt_of_cell h1)]
    exact h1
theorem SOwn.set {w : World} {lo hi R j : Nat} {u : Value} {A : Option Addr} {zs : List ByteArray} (h : SOwn w lo hi A zs) (hR : R < lo) : SOwn (w.setCell ⟨R, j, none⟩ u) lo hi A zs := by
  rcases h with h | ⟨g, hA, h1, h2, h⟩
  · exact .inl h
  · exact .inr ⟨g, hA, h1, h2, h.far (by show g ≠ R; omega) u⟩
/-- A machine of the call's own, in blocks from lo on. -/
structure MO (w : World) (lo : Nat) (A : Option Addr) (n : Nat) (B : Option Addr) (m : Nat) (chi psi : List ByteArray) (mo : ByteArray) : Prop where
  oa : ∃ hi, SOwn w lo hi A chi
  ob : ∃ hi, SOwn w lo hi B psi
  la : chi.length = n
  lb : psi.length = m
  hn : n ≤ 10
  hm : m ≤ 10
  sa : ∀ s ∈ chi, s.size ≤ 100
  sb : ∀ s ∈ psi, s.size ≤ 100
  sm : mo.size ≤ 100
section
variable {w w' : World} {lo : Nat} {A B : Option Addr} {n m : Nat} {chi psi : List ByteArray} {mo : ByteArray}
theorem MO.mach (h : MO w lo A n B m chi psi mo) : Mach w A n B m chi psi mo := by
  obtain ⟨_, h1⟩ := h.oa
  obtain ⟨_, h2⟩ := h.ob
  have := h.hn
  have := h.hm
  have := h.sm
  exact ⟨h1.strs, h2.strs, h.la, h.lb, by omega, by omega, fun s hs => by have := h.sa s hs; unfold maxLen; omega, fun s hs => by have := h.sb s hs; unfold maxLen; omega, by unfold maxLen; omega⟩
theorem MO.next (h : MO w lo A n B m chi psi mo) (hb : Below w.heap.size w w') : MO w' lo A n B m chi psi mo :=
  ⟨h.oa.imp fun _ k => k.next hb, h.ob.imp fun _ k => k.next hb, h.la, h.lb, h.hn, h.hm, h.sa, h.sb, h.sm⟩
theorem MO.grown (h : MO w lo A n B m chi psi mo) {g : Nat} (hg : w.grownBy w' (some g)) (h1 : g < lo) : MO w' lo A n B m chi psi mo :=
  ⟨h.oa.imp fun _ k => k.grown hg h1, h.ob.imp fun _ k => k.grown hg h1, h.la, h.lb, h.hn, h.hm, h.sa, h.sb, h.sm⟩
theorem MO.set (h : MO w lo A n B m chi psi mo) {R j : Nat} {u : Value} (h1 : R < lo) : MO (w.setCell ⟨R, j, none⟩ u) lo A n B m chi psi mo :=
  ⟨h.oa.imp fun _ k => k.set h1, h.ob.imp fun _ k => k.set h1, h.la, h.lb, h.hn, h.hm, h.sa, h.sb, h.sm⟩
theorem MO.less (h : MO w lo A n B m chi psi mo) {lo' : Nat} (h1 : lo' ≤ lo) : MO w lo' A n B m chi psi mo :=
  ⟨h.oa.imp fun _ k => k.wider h1 (Nat.le_refl _), h.ob.imp fun _ k => k.wider h1 (Nat.le_refl _), h.la, h.lb, h.hn, h.hm, h.sa, h.sb, h.sm⟩
end
/-- A machine, and a number or a string. -/
def RetMI (w : World) (e : Ending) (w' : World) : Prop :=
  ∃ (A : Option Addr) (n c : Nat) (B : Option Addr) (m d : Nat) (mo : ByteArray) (chi psi : List ByteArray) (z : Int), e = .returned (.tuple #[.agg #[.slice A n c, .slice B m d, .string mo], .int .i64 z]) ∧ MO w' w.heap.size A n B m chi psi mo ∧ Below w.heap.size w w'
def RetMS (w : World) (e : Ending) (w' : World) : Prop :=
  ∃ (A : Option Addr) (n c : Nat) (B : Option Addr) (m d : Nat) (mo : ByteArray) (chi psi : List ByteArray) (s : ByteArray), e = .returned (.tuple #[.agg #[.slice A n c, .slice B m d, .string mo], .string s]) ∧ s.size ≤ 1000 ∧ MO w' w.heap.size A n B m chi psi mo ∧ Below w.heap.size w w'
abbrev tri (v : World) (R : Nat) (A : Option Addr) (n c : Nat) (B : Option Addr) (m d : Nat) (mo : ByteArray) : World := ((v.setCell ⟨R, 0, none⟩ (.slice A n c)).setCell ⟨R, 1, none⟩ (.slice B m d)).setCell ⟨R, 2, none⟩ (.string mo)
theorem tri_buf {v : World} {R : Nat} {t : TypeId} {x y z : Value} (h : Buf v R t [x, y, z]) (A : Option Addr) (n c : Nat) (B : Option Addr) (m d : Nat) (mo : ByteArray) : Buf (tri v R A n c B m d mo) R t [.slice A n c, .slice B m d, .string mo] :=
  ((h.set 0 (.slice A n c)).set 1 (.slice B m d)).set 2 (.string mo)
theorem tri_bel {w v : World} {R : Nat} (h : Below R w v) (A : Option Addr) (n c : Nat) (B : Option Addr) (m d : Nat) (mo : ByteArray) : Below R w (tri v R A n c B m d mo) :=
  ((h.setCell (p := ⟨R, 0, none⟩) (Nat.le_refl _) (.slice A n c)).setCell (p := ⟨R, 1, none⟩) (Nat.le_refl _) (.slice B m d)).setCell (p := ⟨R, 2, none⟩) (Nat.le_refl _) (.string mo)
theorem tri_mo {v : World} {R lo : Nat} {A B : Option Addr} {n c m d : Nat} {mo : ByteArray} {chi psi : List ByteArray} (h : MO v lo A n B m chi psi mo) (h1 : R < lo) : MO (tri v R A n c B m d mo) lo A n B m chi psi mo := ((h.set h1).set h1).set h1
end Go.Proofs.YtchjhngfkngljaaDoor
