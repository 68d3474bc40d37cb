/- From strings to rows of bytes and back; small functions on letters return what the plain ones say. No condition. -/
import Derived.Test.YtchjhngfkngljaaDoorRows
import Derived.Test.YtchjhngfkngljaaDoorMem
import Derived.Laws.IdiomStrings
set_option linter.unusedVariables false
namespace Go.Proofs.YtchjhngfkngljaaDoor
open Go.RowKit

theorem add_at (g j : Nat) : (⟨g, 0, none⟩ : Addr).add j = ⟨g, j, none⟩ := by
  unfold Addr.add; split <;> simp_all

theorem to_bytes (s : ByteArray) (w : World) :
    ∃ cap w1, (convert 9 22 (.string s)).run Tryd.prog w = .ok (.slice (some ⟨w.heap.size, 0, none⟩) s.size cap) w1 ∧
      Buf w1 w.heap.size 5 (bcells (nb s)) ∧ Below w.heap.size w w1 ∧ w.heap.size < w1.heap.size := by
  refine ⟨_, _, run_bytes_of_string w 9 22 5 s Tryd.underlying9 Tryd.underlying22 Tryd.underlying5, ?_, ?_, ?_⟩
  · refine Buf.new w.drew _ _ _ (fun j u hu => ?_) _ _ (.inr ?_)
    · have hlt : j < s.size := by
        have := (List.getElem?_eq_some_iff.1 hu).1
        rwa [bcells_len, nb_length] at this
      rw [bcells_at (nb_get? s j hlt)] at hu
      injection hu with hu
      rw [bytesRow_at s _ j hlt, ← hu]
      rfl
    · rw [bcells_len, nb_length]
      simp [bytesRow]
  · exact ((Below.refl _ _).drew).alloc (Nat.le_refl _) _
  · show _ < (w.heap.push _).size
    simp

theorem of_bytes (w : World) (g n cap : Nat) (l : List Nat) (h : Buf w g 5 (bcells l)) (hn : l.length = n) (hl : ∀ x ∈ l, x < 256) :
    ∃ r, nb r = l ∧ (convert 22 9 (.slice (some ⟨g, 0, none⟩) n cap)).run Tryd.prog w = .ok (.string r) w := by
  obtain ⟨r, hr⟩ := nb_of_list l hl
  refine ⟨r, hr, ?_⟩
  have hb := run_convert_bytes_back (P := Tryd.prog) w 22 9 5 ⟨g, 0, none⟩ cap r.data.toList Tryd.underlying22 Tryd.underlying5 Tryd.underlying9 (fun j hj => by
    rw [add_at]
    have hj' : j < r.size := by simpa using hj
    have := nb_get? r j hj'
    rw [hr] at this
    rw [h.cell (bcells_at this)]
    rfl)
  have hlen : r.data.toList.length = n := by rw [← hn, ← hr, nb_length]; simp
  rw [hlen] at hb
  rw [hb]

theorem of_one (w : World) (v : Int) (h0 : 0 ≤ v) (h1 : v ≤ 255) :
    ∃ r, nb r = [v.toNat] ∧ (convert 22 9 (.slice (some ⟨w.heap.size, 0, none⟩) 1 1)).run Tryd.prog (w.alloc (.cells #[.int .u8 v] 5)) = .ok (.string r) (w.alloc (.cells #[.int .u8 v] 5)) := by
  refine of_bytes _ w.heap.size 1 1 [v.toNat] (Buf.new w _ _ _ (fun j u hu => ?_) 0 0 (.inl (Nat.le_refl _))) rfl (by simp; omega)
  match j, hu with
  | 0, hu =>
    have e : ((v.toNat : Nat) : Int) = v := by omega
    simp [bcells, e] at hu
    simp [hu]
theorem tmod10 (n : Int) : 97 + n.tmod 10 % 10 = 97 + n % 10 := by
  have := Int.tmod_eq_emod (a := n) (b := 10)
  split at this <;> omega

theorem spec_l1In (n lo hi : Int) (w : World) (b : Bool) (h : decide (lo ≤ n ∧ n ≤ hi) = b) :
    Calls Tryd.prog 40 #[.int .i64 n, .int .i64 lo, .int .i64 hi] w fun e w' => e = .returned (.bool b) ∧ w = w' := by
  have H := Lib.hid h
  clear h
  by_cases h1 : lo ≤ n
  · go_enter Tryd.func40, Tryd.ntmps40
    go_wp2
    go_ret
    exact ⟨ret_bool (by rw [← H.out, decide_eq_decide]; omega), rfl⟩
  · go_enter Tryd.func40, Tryd.ntmps40
    go_wp2
    go_ret
    exact ⟨ret_bool (by rw [← H.out]; symm; rw [decide_eq_false_iff_not]; omega), rfl⟩
end Go.Proofs.YtchjhngfkngljaaDoor
