/- Marks that are written into a machine and found again. No condition. -/
import Derived.Test.YtchjhngfkngljaaDoorSz
import Derived.Test.YtchjhngfkngljaaDoorMarkS
set_option linter.unusedVariables false
namespace Go.Proofs.YtchjhngfkngljaaDoor
open Go.RowKit

theorem SKept.two {w w1 w2 : World} {lo mid hi : Nat} (h : SKept w w1 lo mid) (k : SKept w1 w2 mid hi) (h1 : lo ≤ mid) (h2 : mid ≤ hi) : SKept w w2 lo hi :=
  ⟨k.os.trans h.os, k.tape.trans h.tape, k.output.trans h.output, Nat.le_trans h.size k.size, fun i hi' hd => (k.block i (Nat.lt_of_lt_of_le hi' h.size) (by omega)).trans (h.block i hi' (by omega))⟩
theorem SKept.first {w w0 w1 : World} {lo hi : Nat} (hb : Below w.heap.size w w0) (h : SKept w0 w1 lo hi) : SKept w w1 lo hi :=
  ⟨h.os.trans hb.os, h.tape.trans hb.tape, h.output.trans hb.output, Nat.le_trans hb.size h.size, fun i hi' hd => (h.block i (Nat.lt_of_lt_of_le hi' hb.size) hd).trans (hb.block i hi')⟩
theorem SKept.kept {w w' : World} {lo hi : Nat} (h : SKept w w' lo hi) : Kept w w' lo hi := ⟨h.os, h.tape, h.output, h.size, h.block⟩
set_option maxHeartbeats 400000 in
theorem laws_markTele (A B : Option Addr) (n c m d k0 lo mid hi : Nat) (chi psi : List ByteArray) (mo : ByteArray) (w : World) (h1 : SOwn w lo mid A chi) (h2 : SOwn w mid hi B psi) (l1 : lo ≤ mid) (l2 : mid ≤ hi) (l3 : hi ≤ w.heap.size)
    (hn : chi.length = n) (hm : psi.length = m) (bn : n ≤ 1048576) (bm : m ≤ 1048576) (hk0 : 1 ≤ k0) (hk1 : k0 ≤ 1000000) :
    Calls Tryd.prog 14 #[.agg #[.slice A n c, .slice B m d, .string mo], .int .i64 (k0 : Int)] w fun e w' =>
      e = .returned (.int .i64 ((k0 + n + m : Nat) : Int)) ∧ SOwn w' lo mid A (marksS k0 n) ∧ SOwn w' mid hi B (marksS (k0 + n) m) ∧ SKept w w' lo hi := by
  have hb0 := belA w (.cells #[.slice A n c, .slice B m d, .string mo] 25)
  have hT := tbox w A n c B m d mo
  have H1 := Lib.hid (h1.next hb0)
  have H2 := Lib.hid (h2.next hb0)
  have Hn := Lib.hid hn
  have Hm := Lib.hid hm
  clear h1 h2 hn hm
  go_enter Tryd.func14, Tryd.ntmps14
  go_wp2_with fail
  refine (laws_markStringS _ _ _ lo mid k0 _ _ H1.out Hn.out bn hk0 (by omega)).mono ?_
  rintro e v1 ⟨rfl, hA1, hK1⟩
  have hT1 := hT.same (hK1.block w.heap.size hT.lt (.inr (by omega)))
  have hB1 := H2.out.kept hK1 (.inr (Nat.le_refl _))
  have q1 : v1.cell? ⟨w.heap.size, 1, none⟩ = some (.slice B m d) := hT1.cell (j := 1) rfl
  clear hT hT1
  go_wp2_with fail
  refine (laws_markStringS _ _ _ mid hi (k0 + n) _ _ hB1 Hm.out bm (by omega) (by omega)).mono ?_
  rintro e v2 ⟨rfl, hB2, hK2⟩
  have hA2 := hA1.kept hK2 (.inl (Nat.le_refl _))
  clear q1
  go_wp2_with fail
  go_ret
  exact ⟨rfl, hA2, hB2, (hK1.two hK2 l1 l2).first hb0⟩
set_option maxHeartbeats 400000 in
theorem laws_heldTele (A B : Option Addr) (n c m d k0 : Nat) (mo : ByteArray) (w : World) (h1 : Strs w A (marksS k0 n)) (h2 : Strs w B (marksS (k0 + n) m)) (bn : n ≤ 1048576) (bm : m ≤ 1048576) (hk0 : 1 ≤ k0) (hk1 : k0 ≤ 1000000) :
    Calls Tryd.prog 15 #[.agg #[.slice A n c, .slice B m d, .string mo], .int .i64 (k0 : Int)] w fun e w' =>
      e = .returned (.int .i64 ((k0 + n + m : Nat) : Int)) ∧ Below w.heap.size w w' := by
  have hb0 := belA w (.cells #[.slice A n c, .slice B m d, .string mo] 25)
  have hT := tbox w A n c B m d mo
  have H1 := Lib.hid (h1.next hb0)
  have H2 := Lib.hid (h2.next hb0)
  clear h1 h2
  go_enter Tryd.func15, Tryd.ntmps15
  go_wp2_with fail
  refine (laws_heldStringS _ _ _ k0 _ H1.out bn hk0 (by omega)).mono ?_
  rintro e v1 ⟨rfl, hb1⟩
  have hT1 := hT.next hb1
  have q1 : v1.cell? ⟨w.heap.size, 1, none⟩ = some (.slice B m d) := hT1.cell (j := 1) rfl
  clear hT hT1
  go_wp2_with fail
  refine (laws_heldStringS _ _ _ (k0 + n) _ (H2.out.next hb1) bm (by omega) (by omega)).mono ?_
  rintro e v2 ⟨rfl, hb2⟩
  clear q1
  go_wp2_with fail
  go_ret
  exact ⟨rfl, bthen (bthen hb0 hb1) hb2⟩
end Go.Proofs.YtchjhngfkngljaaDoor
