/- Both tests of orders of places return what the plain test says. No condition. -/
import Derived.Test.YtppdikegmijfgaaInts
import Derived.Test.YtppdikegmijfgaaPlain17
set_option linter.unusedVariables false
namespace Go.Proofs.Ytppdikegmijfgaa
open Go.RowKit

theorem info_bool : (Try.prog.info? 4).map (fun i => (i.zero, i.size, i.bytes)) = some (some (.bool false), 1, 1) := by kernel_rfl
def zc200 : Array Value := Array.replicate 200 (.bool false)
theorem zv200 (w : World) : (zeroValue 64).run Try.prog w = .ok (.agg zc200) w := by kernel_rfl
theorem zeroes200 : zc200.toList = blcells (List.replicate 200 false) := by kernel_rfl
theorem zero200 (w : World) : Buf (w.alloc (.cells zc200 64)) w.heap.size 64 (blcells (List.replicate 200 false)) :=
  Buf.new w _ _ _ (fun j u hu => by rw [← Array.getElem?_toList, zeroes200]; exact hu) 0 0 (.inl (Nat.le_refl _))

set_option maxHeartbeats 1000000 in
theorem impl_PlacesValid (A : Option Addr) (n c : Nat) (zs : List Int) (w : World) (h : Ints w A zs) (hn : zs.length = n) (hb : n ≤ 9223372036854775807) :
    Calls Try.prog 37 #[.slice A n c] w fun e w' => e = .returned (.bool (plv zs)) ∧ Below w.heap.size w w' := by
  have Hn := Lib.hid hn
  clear hn
  by_cases hlen : 200 < n
  · go_enter Try.func37, Try.ntmps37
    go_wp2
    go_ret
    exact ⟨ret_bool (by rw [plv_long (by rw [Hn.out]; exact hlen)]), Below.refl _ _⟩
  · go_enter Try.func37, Try.ntmps37
    have hbuf := zero200 w
    have hzv := zv200
    go_wp2
    clear hzv
    go_loopw [11] (fun i wr => ∃ k : Nat, k ≤ n ∧ i = .int .i64 k ∧ pok zs k ∧ Buf wr w.heap.size 64 (blcells (seenL 200 zs k)) ∧ Below w.heap.size w wr) (fun i _ => n - (intOf i).toNat)
    case atStart => exact ⟨0, Nat.zero_le _, rfl, pok_zero _, by rw [seenL_zero]; exact hbuf, (Below.refl _ _).alloc (Nat.le_refl _) _⟩
    case round =>
      obtain ⟨k, hk, rfl, hp, hbk, hbe⟩ := hrel
      clear hbuf
      by_cases hlt : k < n
      · obtain ⟨z, hz⟩ := get_some zs k (by rw [Hn.out]; exact hlt)
        obtain ⟨b, off, rfl, hbl, hc⟩ := (h.next hbe).at_ hz
        have Hz := Lib.hid hz
        have H := Lib.hid h
        clear hz h
        by_cases hz0 : z < 0
        · go_wp2
          go_ret
          exact ⟨ret_bool (by rw [plv_out Hz.out (by omega)]), hbe⟩
        · by_cases hz1 : (n : Int) ≤ z
          · go_wp2
            go_ret
            exact ⟨ret_bool (by rw [plv_out Hz.out (by rw [Hn.out]; omega)]), hbe⟩
          · obtain ⟨z, rfl⟩ := Int.eq_ofNat_of_zero_le (by omega : 0 ≤ z)
            have hzn : z < n := by omega
            have hz200 : z < 200 := by omega
            have hcell := hbk.cell (blcells_at (seenL_at 200 zs k z hz200))
            have hfree := hbk.free (j := z) (by rw [blcells_len, seenL_len]; exact hz200)
            by_cases hin : (z : Int) ∈ zs.take k
            · rw [decide_eq_true hin] at hcell
              have Hin := Lib.hid hin
              clear hin
              go_wp2
              go_ret
              exact ⟨ret_bool (by rw [plv_twice Hz.out Hin.out]), hbe⟩
            · rw [decide_eq_false hin] at hcell
              have Hin := Lib.hid hin
              clear hin
              go_wp2
              go_roundw
              case rel => exact ⟨k + 1, by omega, by go_num, pok_succ hp Hz.out (by omega) (by rw [Hn.out]; omega) Hin.out, by rw [← seenL_set 200 zs k z Hz.out, ← blcells_set]; exact hbk.set z _, hbe.setCell (Nat.le_refl _) _⟩
              case measure => simp [intOf]; omega
      · go_wp2
        go_ret
        exact ⟨ret_bool (by
          have hkn : k = n := by omega
          rw [pok_all (by rw [Hn.out]; omega) (by rw [Hn.out, ← hkn]; exact hp)]), hbe⟩
end Go.Proofs.Ytppdikegmijfgaa
