/- A machine that came in is a machine. No condition. -/
import Derived.Test.YtchjhngfkngljaaTele2
import Derived.Lib.SmallJoins
import Derived.SliceStrings
import Derived.OpenShut
import Derived.ShutString
set_option linter.unusedVariables false
namespace Go.Proofs.Ytchjhngfkngljaa
open Go.Joins Go.ChangeShapes Go.WideShapes Go.RowKit Go.Deep

section
variable {H : Type} {enc : TypeId × Value → H} {w : World} {base : Nat} {spare : Nat → Bool} {held : Bool}
theorem row_strs {a : Addr} {len cap : Nat} {ss : List ByteArray} (hl : len ≤ ss.length) (hc : ∀ i, i < ss.length → w.cell? (a.add i) = some (.string (ss.getD i ByteArray.empty))) :
    Strs w (some a) (ss.take len) := by
  by_cases h0 : len = 0
  · subst h0; exact .inl rfl
  · obtain ⟨b, off, spot⟩ := a
    have hc0 := hc 0 (by omega)
    have hs : spot = none := by simpa [Addr.add] using World.cell?_spot hc0
    subst hs
    have hadd : ∀ j, (⟨b, off, none⟩ : Addr).add j = ⟨b, off + j, none⟩ := fun j => by unfold Addr.add; split <;> simp_all
    rw [hadd] at hc0
    have hb : b < w.heap.size := block_lt_of_cell hc0
    refine .inr ⟨b, off, rfl, hb, fun k z hk => ?_⟩
    have hkl : k < (ss.take len).length := (List.getElem?_eq_some_iff.1 hk).1
    rw [List.length_take] at hkl
    have h1 := hc k (by omega)
    rw [hadd] at h1
    rw [h1]
    rw [List.getElem?_take_of_lt (by omega)] at hk
    rw [List.getD_eq_getElem?_getD, hk]
    rfl
theorem open_row {fuel : Nat} {v : Value} {x : DataW H × List MemPlace} (h : DataW.trod enc Try.prog w base spare held fuel 22 [v] = some x) :
    ∃ A n c ss, v = .slice A n c ∧ Strs w A ss ∧ ss.length = n ∧ n ≤ 9223372036854775807 ∧ smallS ss := by
  rcases open_strings Try.underlying22 Try.underlying9 (by kernel_rfl) h with ⟨hcs, _⟩ | ⟨a, len, cap, ss, hcs, _, hl, hm, hz, _, hcell, hsm⟩
  · simp at hcs
    exact ⟨none, 0, 0, [], hcs, .inl rfl, rfl, by omega, by intro s hs; cases hs⟩
  · simp at hcs
    have hl2 : len ≤ ss.length := by rw [hz]; split <;> omega
    refine ⟨some a, len, cap, ss.take len, hcs, row_strs (cap := cap) hl2 hcell, by rw [List.length_take]; omega, by unfold maxLen at hm; omega, fun s hs => hsm s (List.mem_of_mem_take hs)⟩
theorem open_tele {r : Reach} {b0 : Nat} {v : Value} {dd : DataW H} {p : List MemPlace} (hv : Value.okWide Try.prog w r b0 24 v) (h : DataW.Trod enc Try.prog w base spare held 24 v dd p) :
    ∃ A n c B m d mo chi psi, v = .agg #[.slice A n c, .slice B m d, .string mo] ∧ Mach w A n B m chi psi mo := by
  obtain ⟨v0, v1, v2, y0, y1, y2, k, rfl, _, _, h0, h1, h2⟩ := open_agg3 Try.underlying24 (by kernel_rfl) (by kernel_rfl) hv h
  obtain ⟨A, n, c, chi, rfl, s1, s2, s3, s4⟩ := open_row h0
  obtain ⟨B, m, d, psi, rfl, t1, t2, t3, t4⟩ := open_row h1
  obtain ⟨mo, rfl, hm⟩ : ∃ mo, v2 = .string mo ∧ mo.size ≤ maxLen := by
    obtain ⟨s, hs, _, hsz⟩ := DataW.trod_string Try.underlying9 h2
    simp at hs
    exact ⟨s, hs, hsz⟩
  exact ⟨A, n, c, B, m, d, mo, chi, psi, rfl, ⟨s1, t1, s2, t2, s3, t3, s4, t4, hm⟩⟩
end
end Go.Proofs.Ytchjhngfkngljaa
