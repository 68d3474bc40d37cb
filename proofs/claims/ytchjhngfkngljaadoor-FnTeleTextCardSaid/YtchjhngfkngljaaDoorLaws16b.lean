/- The walks of the laws that compare both programs on machines. No condition. -/
import Derived.Test.YtchjhngfkngljaaDoorSz
import Derived.Test.YtchjhngfkngljaaDoorOpenT
set_option linter.unusedVariables false
namespace Go.Proofs.YtchjhngfkngljaaDoor
open Go.RowKit

abbrev box2 (w : World) (A : Option Addr) (n c : Nat) (B : Option Addr) (m d : Nat) (A' : Option Addr) (n' c' : Nat) (B' : Option Addr) (m' d' : Nat) (mo : ByteArray) : World :=
  (w.alloc (.cells #[.slice A n c, .slice B m d, .string mo] 25)).alloc (.cells #[.slice A' n' c', .slice B' m' d', .string mo] 25)
theorem box2_bel (w : World) (A : Option Addr) (n c : Nat) (B : Option Addr) (m d : Nat) (A' : Option Addr) (n' c' : Nat) (B' : Option Addr) (m' d' : Nat) (mo : ByteArray) : Below w.heap.size w (box2 w A n c B m d A' n' c' B' m' d' mo) :=
  ((Below.refl _ _).alloc (Nat.le_refl _) _).alloc (by rw [size_alloc]; omega) _
set_option maxHeartbeats 400000 in
theorem laws_eqTele (A B A' B' : Option Addr) (n c m d c' d' : Nat) (chi psi : List ByteArray) (mo : ByteArray) (w : World) (h : Mach w A n B m chi psi mo) (h' : Mach w A' n B' m chi psi mo) :
    Calls Tryd.prog 13 #[.agg #[.slice A n c, .slice B m d, .string mo], .agg #[.slice A' n c', .slice B' m d', .string mo]] w fun e w' => e = .returned (.bool true) ∧ Below w.heap.size w w' := by
  have hb := box2_bel w A n c B m d A' n c' B' m d' mo
  have H := Lib.hid (h.next hb)
  have H' := Lib.hid (h'.next hb)
  have hbn := h.bn
  have hbm := h.bm
  clear h h'
  have hx := (tbox w A n c B m d mo).alloc (.cells #[.slice A' n c', .slice B' m d', .string mo] 25)
  have hy := tbox (w.alloc (.cells #[.slice A n c, .slice B m d, .string mo] 25)) A' n c' B' m d' mo
  rw [size_alloc] at hy
  go_enter Tryd.func13, Tryd.ntmps13
  go_wp2_with fail
  refine (laws_eqStringS _ _ _ _ _ _ _ _ _ H.out.sc H'.out.sc H.out.lc H'.out.lc hbn rfl).mono ?_
  rintro e v1 ⟨rfl, hb1⟩
  have hx1 := hx.next hb1
  have hy1 := hy.next hb1
  have a1 : v1.cell? ⟨w.heap.size, 1, none⟩ = some (.slice B m d) := hx1.cell (j := 1) rfl
  have b1 : v1.cell? ⟨w.heap.size + 1, 1, none⟩ = some (.slice B' m d') := hy1.cell (j := 1) rfl
  have HX := Lib.hid (And.intro hx1 hy1)
  clear hx hy hx1 hy1
  go_wp2_with fail
  refine (laws_eqStringS _ _ _ _ _ _ _ _ _ (H.out.sp.next hb1) (H'.out.sp.next hb1) H.out.lp H'.out.lp hbm rfl).mono ?_
  rintro e v2 ⟨rfl, hb2⟩
  have a2 : v2.cell? ⟨w.heap.size, 2, none⟩ = some (.string mo) := (HX.out.1.next hb2).cell (j := 2) rfl
  have b2 : v2.cell? ⟨w.heap.size + 1, 2, none⟩ = some (.string mo) := (HX.out.2.next hb2).cell (j := 2) rfl
  clear a1 b1
  go_wp2_with fail
  go_ret
  exact ⟨rfl, bthen (bthen hb hb1) hb2⟩
--W16B (from here on written by tools/mk_laws16b.py)
end Go.Proofs.YtchjhngfkngljaaDoor
