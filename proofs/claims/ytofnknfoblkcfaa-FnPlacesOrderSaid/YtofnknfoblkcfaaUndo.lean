/- Undoing orders: both programs return what the plain function says. No condition. -/
import Derived.Test.YtofnknfoblkcfaaPlaces
set_option linter.unusedVariables false
namespace Go.Proofs.Ytofnknfoblkcfaa
open Go.RowKit

/-- Behind k rounds: place zs[j] holds j, for j below k. -/
def undoK (zs : List Int) : Nat → List Int
  | 0 => List.replicate zs.length 0
  | k + 1 => (undoK zs k).set (zs.getD k 0).toNat (k : Int)
def undoL (zs : List Int) : List Int := undoK zs zs.length
theorem undoK_len (zs : List Int) (k : Nat) : (undoK zs k).length = zs.length := by
  induction k with
  | zero => simp [undoK]
  | succ k ih => simp [undoK, ih]
theorem undoL_len (zs : List Int) : (undoL zs).length = zs.length := undoK_len _ _
def up (zs : List Int) : List Int := if plv zs then undoL zs else []
theorem up_no {zs : List Int} (h : plv zs = false) : up zs = [] := by rw [up, h]; rfl
theorem up_yes {zs : List Int} (h : plv zs = true) : up zs = undoL zs := by rw [up, h]; rfl
theorem undoK_step {w : World} {g : Nat} {t : TypeId} {zs : List Int} {k j : Nat} (h : Buf w g t (icells (undoK zs k))) (hz : zs[k]? = some (j : Int)) :
    Buf (w.setCell ⟨g, j, none⟩ (.int .i64 (k : Int))) g t (icells (undoK zs (k + 1))) := by
  have := h.set j (.int .i64 (k : Int))
  rw [icells_set] at this
  have e : (zs.getD k 0).toNat = j := by rw [List.getD_eq_getElem?_getD, hz]; simp
  rw [undoK, e]
  exact this

set_option maxHeartbeats 1000000 in
theorem impl_UndoPlaces (A : Option Addr) (n c : Nat) (zs : List Int) (w : World) (h1 : Ints w A zs) (hn : zs.length = n) (hbn : n ≤ 9223372036854775807) :
    Calls Try.prog 16 #[.slice A n c] w (RetIB w (up zs) (plv zs)) := by
  have Hn := Lib.hid hn
  cases hv : plv zs
  · clear hn
    go_enter Try.func16, Try.ntmps16
    go_wp2_with fail
    refine (impl_PlacesValid _ _ _ _ _ h1 Hn.out hbn).mono ?_
    rintro e v1 ⟨rfl, hb1⟩
    go_wp2_with fail
    go_ret2
    exact ⟨_, _, _, rfl, by rw [up_no hv]; rfl, .inl (up_no hv), hb1⟩
  · have ln : n ≤ 200 := by have := plv_len hv; omega
    have Hv := Lib.hid hv
    clear hn
    go_enter Try.func16, Try.ntmps16
    go_wp2_with fail
    refine (impl_PlacesValid _ _ _ _ _ h1 Hn.out hbn).mono ?_
    rintro e v2 ⟨rfl, hB2⟩
    obtain ⟨w1, hmk, hbuf, hbel, hsz⟩ := make_ints n (by omega) v2
    go_wp2_with fail
    go_loopw [15] (fun i wr => ∃ k : Nat, k ≤ n ∧ i = .int .i64 k ∧ Buf wr v2.heap.size 3 (icells (undoK zs k)) ∧ Below v2.heap.size v2 wr) (fun i _ => n - (intOf i).toNat)
    case atStart => exact ⟨0, Nat.zero_le _, rfl, by rw [undoK, Hn.out]; exact hbuf, hbel⟩
    case round =>
      obtain ⟨k, hk, rfl, hbk, hbe⟩ := hrel
      clear hmk hbuf hbel hsz
      have hB3 := bthen hB2 hbe
      by_cases hlt : k < n
      · obtain ⟨z, hz⟩ := get_some zs k (by rw [Hn.out]; exact hlt)
        obtain ⟨hz0, hz1⟩ := plv_at Hv.out hz
        rw [Hn.out] at hz1
        obtain ⟨z, rfl⟩ := Int.eq_ofNat_of_zero_le hz0
        have hzn : z < n := by omega
        obtain ⟨b, off, rfl, hbl, hc⟩ := (h1.next hB3).at_ hz
        have hfree := hbk.free (j := z) (by rw [icells_len, undoK_len, Hn.out]; exact hzn)
        obtain ⟨u, hcell⟩ : ∃ u, wr.cell? ⟨v2.heap.size, z, none⟩ = some u := by
          obtain ⟨u, hu⟩ := get_some (icells (undoK zs k)) z (by rw [icells_len, undoK_len, Hn.out]; exact hzn)
          exact ⟨u, hbk.cell hu⟩
        have Hz := Lib.hid hz
        have H1 := Lib.hid h1
        clear hz h1
        go_wp2
        go_roundw
        case rel => exact ⟨k + 1, by omega, by go_num, undoK_step hbk Hz.out, hbe.setCell (Nat.le_refl _) _⟩
        case measure => simp [intOf]; omega
      · have hkn : k = n := by omega
        rw [hkn] at hbk
        go_wp2
        go_ret2
        have hu := up_yes Hv.out
        exact ⟨_, _, _, rfl, by rw [hu, undoL_len, Hn.out], .inr ⟨_, rfl, hB2.size, by rw [hu, undoL, Hn.out]; exact hbk⟩, hB3⟩

end Go.Proofs.Ytofnknfoblkcfaa
