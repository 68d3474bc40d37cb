/- Plain laws of joined orders. No condition. -/
import Derived.Test.YtofnknfoblkcfaaPlain17c
set_option linter.unusedVariables false
namespace Go.Proofs.Ytofnknfoblkcfaa

theorem joinL_get {f s : List Int} {i : Nat} (hi : i < s.length) : (joinL f s).getD i 0 = f.getD (s.getD i 0).toNat 0 := by
  rw [List.getD_eq_getElem?_getD, joinL, List.getElem?_map, List.getElem?_eq_getElem hi]
  simp [List.getD_eq_getElem?_getD, List.getElem?_eq_getElem hi]
theorem join_assoc {f s t : List Int} (ht : plv t = true) (hl : s.length = t.length) : joinL (joinL f s) t = joinL f (joinL s t) := by
  show t.map (fun z => (joinL f s).getD z.toNat 0) = (t.map (fun z => s.getD z.toNat 0)).map (fun z => f.getD z.toNat 0)
  rw [List.map_map]
  refine List.map_congr_left fun z hz => ?_
  obtain ⟨k, hk⟩ := List.getElem?_of_mem hz
  have := plv_at ht hk
  exact joinL_get (f := f) (s := s) (by omega)
theorem jpOk_yes {f s : List Int} (h : jpOk f s = true) : plv f = true ∧ plv s = true ∧ f.length = s.length := g3_yes h
theorem jpOk_of {f s : List Int} (hf : plv f = true) (hs : plv s = true) (hl : f.length = s.length) : jpOk f s = true ∧ jp f s = joinL f s := by
  have h : jpOk f s = true := by unfold jpOk g3; rw [hf, hs, hl]; simp
  exact ⟨h, by rw [jp, h]; rfl⟩
end Go.Proofs.Ytofnknfoblkcfaa
