/- An append to a row of the call's own, with where the row lies afterwards. No condition. -/
import Derived.Test.YtppdikegmijfgaaInts
import Derived.Maps.AppendAt
set_option linter.unusedVariables false
namespace Go.Proofs.Ytppdikegmijfgaa
open Go.RowKit

theorem wpList_append_int3 {ops : Array Oper} {rest : List Oper} {o : Oper} {a : Act} {Q : Exit → Act → World → Prop} (w : World) (hgd : o.guard = none) (s x : Operand)
    (ho : o.op = .call { callee := .builtin .append, args := #[s, x], argTypes := #[38, 38] }) (B : Nat) (v : Value) (n : Nat) (zs : List Int) (z : Int)
    (hown : w.ownsRow B 3 1 v n (icells zs)) (hs : a.eval s = v) (hx : a.eval x = .slice (some ⟨w.heap.size, 0, none⟩) 1 1) (hn : n ≤ 1000000) (hB : B ≤ w.heap.size)
    (h : ∀ v' w', w'.ownsRow B 3 1 v' (n + 1) (icells (zs ++ [z])) → (w.alloc (.cells #[.int .i64 z] 3)).grownBy w' v.ownBlock → (v'.ownBlock = v.ownBlock ∨ v'.ownBlock = some (w.heap.size + 1)) → wpList Try.prog ops Q rest (a.put o.dst v') w') :
    wpList Try.prog ops Q (o :: rest) a (w.alloc (.cells #[.int .i64 z] 3)) := by
  obtain ⟨i0, hi, hz0, hz1, hz2⟩ := info_parts info_int
  refine wpList_append_own_at _ hgd s x 38 ho B 3 i0 (.int .i64 0) 1 8 Try.underlying38 hi hz0 hz1 hz2 rfl (by decide) v n (icells zs) hs (hown.alloc _) ⟨w.heap.size, 0, none⟩ 1 1 [.int .i64 z] hx rfl ?_ ?_ ?_ ?_ ?_ ?_
  · intro j u hj
    match j, hj with
    | 0, hj =>
      simp at hj
      subst hj
      rw [show (⟨w.heap.size, 0, none⟩ : Addr).add 0 = ⟨w.heap.size, 0, none⟩ from rfl, World.cell?_alloc_mark]
      rfl
  · intro u hu
    simp at hu
    subst hu
    rfl
  · unfold maxLen; omega
  · omega
  · simp; omega
  · intro v' w' hown' hg _ hat
    exact h v' w' (by simpa [icells] using hown') hg (by simpa using hat)
/-- What an append leaves: another block stays as it is, and the row does not come to lie there. -/
theorem app_keeps {w w' : World} {v v' : Value} {z : Int} {g : Nat} {t : TypeId} {xs : List Value} (hb : Buf w g t xs) (hne : v.ownBlock ≠ some g) (hgr : (w.alloc (.cells #[.int .i64 z] 3)).grownBy w' v.ownBlock) (hat : v'.ownBlock = v.ownBlock ∨ v'.ownBlock = some (w.heap.size + 1)) :
    Buf w' g t xs ∧ v'.ownBlock ≠ some g := by
  refine ⟨(hb.alloc _).grown hgr (fun e => hne e.symm), ?_⟩
  have := hb.lt
  rcases hat with h | h
  · rw [h]; exact hne
  · rw [h]; intro e; injection e with e; omega
theorem app_below {w w' : World} {v : Value} {z : Int} {B n : Nat} {xs : List Value} (hB : B ≤ w.heap.size) (ho : w.ownsRow B 3 1 v n xs) (hgr : (w.alloc (.cells #[.int .i64 z] 3)).grownBy w' v.ownBlock) : Below B w w' :=
  Below.grown ((Below.refl _ _).alloc hB _) hgr (by simp; omega) (fun k hk => (ho.lt k hk).1)
end Go.Proofs.Ytppdikegmijfgaa
