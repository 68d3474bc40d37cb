/- From strings to rows of bytes and back; small functions on letters return what the plain ones say. No condition. -/
import Derived.Test.YtppdikegmijfgaaRows
import Derived.Test.YtppdikegmijfgaaMem
import Derived.Laws.IdiomStrings
set_option linter.unusedVariables false
namespace Go.Proofs.Ytppdikegmijfgaa
open Go.RowKit

theorem add_at (g j : Nat) : (⟨g, 0, none⟩ : Addr).add j = ⟨g, j, none⟩ := by
  unfold Addr.add; split <;> simp_all

theorem to_bytes (s : ByteArray) (w : World) :
    ∃ cap w1, (convert 9 22 (.string s)).run Try.prog w = .ok (.slice (some ⟨w.heap.size, 0, none⟩) s.size cap) w1 ∧
      Buf w1 w.heap.size 5 (bcells (nb s)) ∧ Below w.heap.size w w1 ∧ w.heap.size < w1.heap.size := by
  refine ⟨_, _, run_bytes_of_string w 9 22 5 s Try.underlying9 Try.underlying22 Try.underlying5, ?_, ?_, ?_⟩
  · refine Buf.new w.drew _ _ _ (fun j u hu => ?_) _ _ (.inr ?_)
    · have hlt : j < s.size := by
        have := (List.getElem?_eq_some_iff.1 hu).1
        rwa [bcells_len, nb_length] at this
      rw [bcells_at (nb_get? s j hlt)] at hu
      injection hu with hu
      rw [bytesRow_at s _ j hlt, ← hu]
      rfl
    · rw [bcells_len, nb_length]
      simp [bytesRow]
  · exact ((Below.refl _ _).drew).alloc (Nat.le_refl _) _
  · show _ < (w.heap.push _).size
    simp

theorem of_bytes (w : World) (g n cap : Nat) (l : List Nat) (h : Buf w g 5 (bcells l)) (hn : l.length = n) (hl : ∀ x ∈ l, x < 256) :
    ∃ r, nb r = l ∧ (convert 22 9 (.slice (some ⟨g, 0, none⟩) n cap)).run Try.prog w = .ok (.string r) w := by
  obtain ⟨r, hr⟩ := nb_of_list l hl
  refine ⟨r, hr, ?_⟩
  have hb := run_convert_bytes_back (P := Try.prog) w 22 9 5 ⟨g, 0, none⟩ cap r.data.toList Try.underlying22 Try.underlying5 Try.underlying9 (fun j hj => by
    rw [add_at]
    have hj' : j < r.size := by simpa using hj
    have := nb_get? r j hj'
    rw [hr] at this
    rw [h.cell (bcells_at this)]
    rfl)
  have hlen : r.data.toList.length = n := by rw [← hn, ← hr, nb_length]; simp
  rw [hlen] at hb
  rw [hb]

theorem of_one (w : World) (v : Int) (h0 : 0 ≤ v) (h1 : v ≤ 255) :
    ∃ r, nb r = [v.toNat] ∧ (convert 22 9 (.slice (some ⟨w.heap.size, 0, none⟩) 1 1)).run Try.prog (w.alloc (.cells #[.int .u8 v] 5)) = .ok (.string r) (w.alloc (.cells #[.int .u8 v] 5)) := by
  refine of_bytes _ w.heap.size 1 1 [v.toNat] (Buf.new w _ _ _ (fun j u hu => ?_) 0 0 (.inl (Nat.le_refl _))) rfl (by simp; omega)
  match j, hu with
  | 0, hu =>
    have e : ((v.toNat : Nat) : Int) = v := by omega
    simp [bcells, e] at hu
    simp [hu]
theorem tmod10 (n : Int) : 97 + n.tmod 10 % 10 = 97 + n % 10 := by
  have := Int.tmod_eq_emod (a := n) (b := 10)
  split at this <;> omega

theorem impl_number (c : Int) (w : World) (h1 : 97 ≤ c) (h2 : c ≤ 255) :
    Calls Try.prog 29 #[.int .u8 c] w fun e w' => e = .returned (.int .i64 (c - 97)) ∧ w = w' := by
  go_enter Try.func29, Try.ntmps29
  go_wp2
  go_ret
  exact ⟨rfl, rfl⟩
theorem impl_letter (n : Int) (w : World) (h1 : 0 ≤ n) (h2 : n ≤ 150) :
    Calls Try.prog 28 #[.int .i64 n] w fun e w' => e = .returned (.int .u8 (97 + n)) ∧ w = w' := by
  go_enter Try.func28, Try.ntmps28
  go_wp2
  go_ret
  exact ⟨rfl, rfl⟩
theorem impl_shifted (c n : Int) (w : World) (h1 : 97 ≤ c) (h2 : c ≤ 106) (h3 : 0 ≤ n) (h4 : n ≤ 10000) :
    Calls Try.prog 43 #[.int .u8 c, .int .i64 n] w fun e w' => e = .returned (.int .u8 (97 + (c - 97 + n) % 10)) ∧ w = w' := by
  go_enter Try.func43, Try.ntmps43
  go_wp2_with (first | (go_at_call 29; refine (impl_number _ _ h1 (by omega)).mono ?_; rintro e w' ⟨rfl, rfl⟩) | (go_at_call 28; refine (impl_letter _ _ (by omega) (by omega)).mono ?_; rintro e w' ⟨rfl, rfl⟩))
  go_ret
  exact ⟨rfl, rfl⟩
theorem spec_l1Digit (s : ByteArray) (i : Int) (k c : Nat) (w : World) (hi : i = (k : Int)) (hc : (nb s)[k]? = some c) :
    Calls Try.prog 40 #[.string s, .int .i64 i] w fun e w' => e = .returned (.int .i64 ((c : Int) - 97)) ∧ w = w' := by
  subst hi
  have hk : k < s.size := by rw [← nb_length]; exact (List.getElem?_eq_some_iff.1 hc).1
  have hv : s[k].toNat = c := by have := nb_get? s k hk; rw [hc] at this; injection this with this; exact this.symm
  have hb : (s[k].toNat : Int) ≤ 255 := by have := s[k].toNat_lt; omega
  have Hv := Lib.hid hv
  clear hv hc
  go_enter Try.func40, Try.ntmps40
  go_wp2
  go_ret
  exact ⟨ret_int (by rw [← Hv.out]), rfl⟩
theorem spec_l1In (n lo hi : Int) (w : World) (b : Bool) (h : decide (lo ≤ n ∧ n ≤ hi) = b) :
    Calls Try.prog 39 #[.int .i64 n, .int .i64 lo, .int .i64 hi] w fun e w' => e = .returned (.bool b) ∧ w = w' := by
  have H := Lib.hid h
  clear h
  by_cases h1 : lo ≤ n
  · go_enter Try.func39, Try.ntmps39
    go_wp2
    go_ret
    exact ⟨ret_bool (by rw [← H.out, decide_eq_decide]; omega), rfl⟩
  · go_enter Try.func39, Try.ntmps39
    go_wp2
    go_ret
    exact ⟨ret_bool (by rw [← H.out]; symm; rw [decide_eq_false_iff_not]; omega), rfl⟩
set_option maxHeartbeats 400000 in
theorem spec_l1Letter (n : Int) (w : World) :
    Calls Try.prog 46 #[.int .i64 n] w (RetS w [(97 + n % 10).toNat]) := by
  have h3 : -9 ≤ n.tmod 10 := by have := Int.tmod_eq_emod (a := n) (b := 10); split at this <;> omega
  have h4 : n.tmod 10 ≤ 9 := by have := Int.tmod_eq_emod (a := n) (b := 10); split at this <;> omega
  obtain ⟨r, hr, hrun⟩ := of_one w (97 + n.tmod 10 % 10) (by omega) (by omega)
  have Hr := Lib.hid hr
  clear hr
  go_enter Try.func46, Try.ntmps46
  go_wp2
  go_ret
  refine ⟨r, rfl, ?_, (Below.refl _ _).alloc (Nat.le_refl _) _⟩
  rw [Hr.out, tmod10 n]
end Go.Proofs.Ytppdikegmijfgaa
