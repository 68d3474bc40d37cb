/- Wheels and machines that are drawn: some strings. No condition. -/
import Derived.Test.YtchjhngfkngljaaDoorDraw16
import Derived.Test.YtchjhngfkngljaaDoorTele5
import Derived.Maps.AppendAt
import Derived.Deep.RegionWith
import Derived.Deep.RegionLaw
import Derived.Deep.AppendLies
set_option linter.unusedVariables false
namespace Go.Proofs.YtchjhngfkngljaaDoor
open Go.RowKit

set_option maxHeartbeats 1000000 in
theorem spec_l15Wheel (g p : Nat) (w : World) (h : Rd w g p) (hp : p ≤ 90000) :
    Calls Tryd.prog 36 #[.pointer (some ⟨g, 0, none⟩)] w (DrS w g p 20 20) := by
  go_enter Tryd.func36, Tryd.ntmps36
  go_wp2_with fail
  refine (spec_pick g p 8 w h (by omega) (by omega) (by omega)).mono ?_
  rintro e v1 ⟨m, rfl, hm, hr1, hg1⟩
  have hm' : m ≤ 8 := by omega
  clear hm
  go_wp2_with fail
  go_loopw [3, 4] (fun o i wr => ∃ (k q : Nat) (s : ByteArray), k ≤ 10 ∧ i = .int .i64 k ∧ o = .string s ∧ s.size + k ≤ 10 ∧ q + k ≤ p + 11 ∧ Rd wr g q ∧ w.grownBy wr (some g)) (fun _ i _ => (intOf i).toNat)
  case atStart => exact ⟨2 + m, p + 1, ByteArray.empty, by omega, by go_num, rfl, by show 0 + (2 + m) ≤ 10; omega, by omega, hr1, hg1⟩
  case round =>
    obtain ⟨k, q, s, hk, rfl, rfl, hs, hq, hr, hg⟩ := hrel
    have hgl := hr.lt
    by_cases hlt : 0 < k
    · go_wp2_with fail
      refine (spec_of g q 2 2 _ [S1 48, S1 49] _ (hr.alloc _) (by omega) (by omega) (by omega) ⟨wr.heap.size, 0, none⟩ rfl rfl (by show wr.heap.size ≠ g; omega) rfl
        (fun j z hz => cells_lit wr [.string (S1 48), .string (S1 49)] 9 j _ (by have := congrArg (Option.map Value.string) hz; simpa [← List.getElem?_map] using this))).mono ?_
      rintro e v2 ⟨z, rfl, hz, hr2, hg2⟩
      have hz1 : z.size ≤ 1 := by simp at hz; rcases hz with rfl | rfl <;> exact Nat.le_refl _
      clear hz
      go_wp2_with fail
      go_roundw
      case rel => exact ⟨k - 1, q + 1, _, by omega, by go_num, rfl, by rw [ByteArray.size_append]; omega, by omega, hr2, gthen (gthen hg (galloc _ _ _)) hg2⟩
      case measure => simp [intOf]; omega
    · go_wp2_with fail
      go_ret
      exact ⟨s, q, rfl, by omega, by omega, hr, hg⟩
/-- One string is appended to a row of the call's own. -/
theorem wpList_append_str2 {ops : Array Oper} {rest : List Oper} {o : Oper} {a : Act} {Q : Exit → Act → World → Prop} (w : World) (hgd : o.guard = none) (s x : Operand)
    (ho : o.op = .call { callee := .builtin .append, args := #[s, x], argTypes := #[23, 23] }) (B : Nat) (v : Value) (n : Nat) (zs : List ByteArray) (z : ByteArray)
    (hown : w.ownsRow B 9 1 v n (scells zs)) (hs : a.eval s = v) (hx : a.eval x = .slice (some ⟨w.heap.size, 0, none⟩) 1 1) (hn : n ≤ 1000000) (hB : B ≤ w.heap.size)
    (h : ∀ v' w', w'.ownsRow B 9 1 v' (n + 1) (scells (zs ++ [z])) → (w.alloc (.cells #[.string z] 9)).grownBy w' v.ownBlock → (v'.ownBlock = v.ownBlock ∨ v'.ownBlock = some (w.heap.size + 1)) → wpList Tryd.prog ops Q rest (a.put o.dst v') w') :
    wpList Tryd.prog ops Q (o :: rest) a (w.alloc (.cells #[.string z] 9)) := by
  obtain ⟨i0, hi, hz0, hz1, hz2⟩ := info_parts info_str
  refine wpList_append_own_at _ hgd s x 23 ho B 9 i0 (.string ByteArray.empty) 1 16 Tryd.underlying23 hi hz0 hz1 hz2 rfl (by decide) v n (scells zs) hs (hown.alloc _) ⟨w.heap.size, 0, none⟩ 1 1 [.string z] hx rfl ?_ ?_ ?_ ?_ ?_ ?_
  · intro j u hj
    match j, hj with
    | 0, hj =>
      simp at hj
      subst hj
      rw [show (⟨w.heap.size, 0, none⟩ : Addr).add 0 = ⟨w.heap.size, 0, none⟩ from rfl, World.cell?_alloc_mark]
      rfl
  · intro u hu
    simp at hu
    subst hu
    rfl
  · unfold maxLen; omega
  · omega
  · simp; omega
  · intro v' w' hown' hg _ hat
    exact h v' w' (by simpa [scells] using hown') hg (by simpa using hat)
/-- The same at a step of a region that draws its order. -/
theorem step_append_str {ops : Array Oper} {o : Oper} {a : Act} {K : Act → World → Prop} {Q : Exit → Act → World → Prop} {E : Prop} (w : World) (hgd : o.guard = none) (s x : Operand)
    (ho : o.op = .call { callee := .builtin .append, args := #[s, x], argTypes := #[23, 23] }) (B : Nat) (v : Value) (n : Nat) (zs : List ByteArray) (z : ByteArray)
    (hown : w.ownsRow B 9 1 v n (scells zs)) (hs : a.eval s = v) (hx : a.eval x = .slice (some ⟨w.heap.size, 0, none⟩) 1 1) (hn : n ≤ 1000000) (hB : B ≤ w.heap.size)
    (h : ∀ g cap w', w'.ownsRow B 9 1 (.slice (some ⟨g, 0, none⟩) (n + 1) cap) (n + 1) (scells (zs ++ [z])) → (w.alloc (.cells #[.string z] 9)).grownBy w' v.ownBlock → (v.ownBlock = some g ∨ g = w.heap.size + 1) → K (a.put o.dst (.slice (some ⟨g, 0, none⟩) (n + 1) cap)) w') :
    if Region.wanted o (yielded ops a.tmps) = true then Oper.wp Tryd.prog o a (w.alloc (.cells #[.string z] 9)) K Q else E := by
  obtain ⟨i0, hi, hz0, hz1, hz2⟩ := info_parts info_str
  refine step_append_lies _ hgd s x 23 ho B 9 i0 (.string ByteArray.empty) 1 16 Tryd.underlying23 hi hz0 hz1 hz2 rfl (by decide) v n (scells zs) hs (hown.alloc _) ⟨w.heap.size, 0, none⟩ 1 1 [.string z] hx rfl ?_ ?_ (by omega) ?_ ?_ ?_ (w.heap.size + 1) (by simp) ?_
  · intro j u hj
    match j, hj with
    | 0, hj =>
      simp at hj
      subst hj
      rw [show (⟨w.heap.size, 0, none⟩ : Addr).add 0 = ⟨w.heap.size, 0, none⟩ from rfl, World.cell?_alloc_mark]
      rfl
  · intro u hu
    simp at hu
    subst hu
    rfl
  · unfold maxLen; omega
  · omega
  · simp; omega
  · intro g cap w' hown' hg hat _
    exact h g cap w' (by simpa [scells] using hown') hg hat
end Go.Proofs.YtchjhngfkngljaaDoor
