/- Undoing orders: both programs return what the plain function says. No condition. -/
import Derived.Test.YtppdikegmijfgaaPlaces
set_option linter.unusedVariables false
namespace Go.Proofs.Ytppdikegmijfgaa
open Go.RowKit

/-- Behind k rounds: place zs[j] holds j, for j below k. -/
def undoK (zs : List Int) : Nat → List Int
  | 0 => List.replicate zs.length 0
  | k + 1 => (undoK zs k).set (zs.getD k 0).toNat (k : Int)
def undoL (zs : List Int) : List Int := undoK zs zs.length
theorem undoK_len (zs : List Int) (k : Nat) : (undoK zs k).length = zs.length := by
  induction k with
  | zero => simp [undoK]
  | succ k ih => simp [undoK, ih]
theorem undoL_len (zs : List Int) : (undoL zs).length = zs.length := undoK_len _ _
def up (zs : List Int) : List Int := if plv zs then undoL zs else []
theorem up_no {zs : List Int} (h : plv zs = false) : up zs = [] := by rw [up, h]; rfl
theorem up_yes {zs : List Int} (h : plv zs = true) : up zs = undoL zs := by rw [up, h]; rfl
theorem undoK_step {w : World} {g : Nat} {t : TypeId} {zs : List Int} {k j : Nat} (h : Buf w g t (icells (undoK zs k))) (hz : zs[k]? = some (j : Int)) :
    Buf (w.setCell ⟨g, j, none⟩ (.int .i64 (k : Int))) g t (icells (undoK zs (k + 1))) := by
  have := h.set j (.int .i64 (k : Int))
  rw [icells_set] at this
  have e : (zs.getD k 0).toNat = j := by rw [List.getD_eq_getElem?_getD, hz]; simp
  rw [undoK, e]
  exact this

end Go.Proofs.Ytppdikegmijfgaa
