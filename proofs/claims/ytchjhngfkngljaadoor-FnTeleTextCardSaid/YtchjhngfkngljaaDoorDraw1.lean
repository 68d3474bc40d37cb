/- Words that are drawn: some word, not too long; only the source's own block changes. No condition. -/
import Derived.Test.YtchjhngfkngljaaDoorRd
import Derived.OpenShut
set_option linter.unusedVariables false
namespace Go.Proofs.YtchjhngfkngljaaDoor
open Go.RowKit

/-- A string is drawn: of at most m bytes, by at most q draws. -/
def DrS (w : World) (g p q m : Nat) (e : Ending) (w' : World) : Prop := ∃ r p', e = .returned (.string r) ∧ r.size ≤ m ∧ p' ≤ p + q ∧ Rd w' g p' ∧ w.grownBy w' (some g)

theorem BRow.of_row {w : World} {a : Option Addr} {len cap : Nat} {zs : List Int} (h : IsRow .u8 w a len cap zs) (o : Obj) (n : Nat) (hn : n ≤ len) : BRow (w.alloc o) w.heap.size a n := by
  rcases h with ⟨rfl, rfl, rfl, rfl⟩ | ⟨x, rfl, hl, hm, hz, hc, hw⟩
  · exact .inl (by omega)
  · by_cases h0 : n = 0
    · exact .inl h0
    · obtain ⟨b, off, spot⟩ := x
      have hc0 := hc 0 (by omega)
      have hs : spot = none := by simpa [Addr.add] using World.cell?_spot hc0
      subst hs
      have hadd : ∀ j, (⟨b, off, none⟩ : Addr).add j = ⟨b, off + j, none⟩ := fun j => by unfold Addr.add; split <;> simp_all
      rw [hadd] at hc0
      have hb : b < w.heap.size := block_lt_of_cell hc0
      refine .inr ⟨b, off, rfl, hb, fun j hj => ?_⟩
      have := hc j (by omega)
      rw [hadd] at this
      refine ⟨zs.getD j 0, by rw [World.cell?_alloc_lt w o _ hb]; exact this, ?_⟩
      have hmem : zs.getD j 0 ∈ zs := by
        rw [List.getD_eq_getElem?_getD, List.getElem?_eq_getElem (by omega : j < zs.length)]
        exact List.getElem_mem _
      exact bounds_u8 (hw _ hmem)

set_option maxHeartbeats 400000 in
theorem spec_l21Open (a : Option Addr) (len cap : Nat) (zs : List Int) (w : World) (h : IsRow .u8 w a len cap zs) :
    Calls Tryd.prog 17 #[.slice a len cap] w fun e w' => e = .returned (.pointer (some ⟨w.heap.size, 0, none⟩)) ∧ Rd w' w.heap.size 0 ∧ Below w.heap.size w w' := by
  have hl := h.len_le
  by_cases hb : 2000 < len
  · have hcap : 2000 ≤ cap := by rcases h with ⟨_, h, _, _⟩ | ⟨_, _, h1, _⟩ <;> omega
    have H := Lib.hid h
    clear h
    go_enter Tryd.func17, Tryd.ntmps17
    go_wp2
    go_ret
    exact ⟨rfl, ⟨a, 2000, cap, heap_alloc_new w _, by omega, BRow.of_row H.out _ _ (by omega)⟩, (Below.refl _ _).alloc (Nat.le_refl _) _⟩
  · have H := Lib.hid h
    clear h
    go_enter Tryd.func17, Tryd.ntmps17
    go_wp2
    go_ret
    exact ⟨rfl, ⟨a, len, cap, heap_alloc_new w _, by omega, BRow.of_row H.out _ _ (Nat.le_refl _)⟩, (Below.refl _ _).alloc (Nat.le_refl _) _⟩

theorem spec_of (g p n c : Nat) (A : Option Addr) (zs : List ByteArray) (w : World) (h : Rd w g p) (hp : p ≤ 900000) (hn : 1 ≤ n) (hn2 : n ≤ 100) (ad : Addr)
    (hA : A = some ad) (hs : ad.spot = none) (hne : ad.block ≠ g) (hl : zs.length = n) (hc : ∀ (j : Nat) (z : ByteArray), zs[j]? = some z → w.cell? ⟨ad.block, ad.off + j, none⟩ = some (.string z)) :
    Calls Tryd.prog 25 #[.pointer (some ⟨g, 0, none⟩), .slice A n c] w fun e w' => ∃ z, e = .returned (.string z) ∧ z ∈ zs ∧ Rd w' g (p + 1) ∧ w.grownBy w' (some g) := by
  subst hA
  obtain ⟨b, off, spot⟩ := ad
  simp only at hs hne hc
  subst hs
  have Hl := Lib.hid hl
  clear hl
  go_enter Tryd.func25, Tryd.ntmps25
  go_wp2_with fail
  refine (spec_pick g p _ w h (by omega) (by omega) (by omega)).mono ?_
  rintro e v1 ⟨m, rfl, hm, hr1, hg1⟩
  have hm' : m < n := by omega
  obtain ⟨z, hz⟩ : ∃ z, zs[m]? = some z := ⟨_, List.getElem?_eq_getElem (by rw [Hl.out]; exact hm')⟩
  have hcell := hg1.cell (hc m z hz) (by simpa using hne)
  have Hz := Lib.hid (List.mem_of_getElem? hz)
  clear hm hz hc
  go_wp2_with fail
  go_ret
  exact ⟨z, rfl, Hz.out, hr1, hg1⟩
theorem cells_lit (w : World) (l : List Value) (t : TypeId) (j : Nat) (u : Value) (h : l[j]? = some u) : (w.alloc (.cells l.toArray t)).cell? ⟨w.heap.size, 0 + j, none⟩ = some u := by
  rw [Nat.zero_add, World.cell?_alloc_mark]; simpa using h
theorem Rd.alloc {w : World} {g p : Nat} (h : Rd w g p) (o : Obj) : Rd (w.alloc o) g p := h.next ((Below.refl _ _).alloc (Nat.le_refl _) o)
theorem galloc (w : World) (o : Obj) (row : Option Nat) : w.grownBy (w.alloc o) row := gbel ((Below.refl _ _).alloc (Nat.le_refl _) o) row
end Go.Proofs.YtchjhngfkngljaaDoor
