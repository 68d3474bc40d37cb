/- How often each letter occurs; letters of numbers. No condition. -/
import Derived.Test.YtljnakjphbnbjaaPlain17d
import Derived.Test.YtljnakjphbnbjaaConv
set_option linter.unusedVariables false
namespace Go.Proofs.Ytljnakjphbnbjaa
open Go.RowKit

set_option maxHeartbeats 1000000 in
theorem impl_LetterCounts (a : ByteArray) (w : World) (hma : a.size ≤ maxLen) :
    Calls Try.prog 12 #[.string a] w (RetI w (lc (nb a))) := by
  cases hv : wv (nb a)
  · have hr : lc (nb a) = [] := by rw [lc, hv]; rfl
    rw [hr]
    clear hr
    go_enter Try.func12, Try.ntmps12
    go_wp2_with fail
    refine (impl_WordValid _ _ hma).mono ?_
    rintro e v0 ⟨rfl, rfl⟩
    go_wp2_with fail
    go_ret
    exact ⟨_, _, _, rfl, rfl, .inl rfl, Below.refl _ _⟩
  · have hr : lc (nb a) = countsL (nb a) := by rw [lc, hv]; rfl
    rw [hr]
    clear hr
    have la := wv_len hv
    rw [nb_length] at la
    have Hv := Lib.hid hv
    obtain ⟨w1, hmk0, hbuf, hbel, hsz⟩ := make_ints 10 (by omega) w
    have hmk : (Instr.makeSlice 28 (.int .i64 10) (.int .i64 10)).run Try.prog w = .ok (.slice (some ⟨w.heap.size, 0, none⟩) 10 10) w1 := hmk0
    clear hmk0
    go_enter Try.func12, Try.ntmps12
    go_wp2_with fail
    refine (impl_WordValid _ _ hma).mono ?_
    rintro e v0 ⟨rfl, rfl⟩
    go_wp2_with fail
    go_loopw [11] (fun i wr => ∃ k : Nat, k ≤ a.size ∧ i = .int .i64 k ∧ Buf wr w.heap.size 3 (icells (countsK (nb a) k)) ∧ Below w.heap.size w wr) (fun i _ => a.size - (intOf i).toNat)
    case atStart => exact ⟨0, Nat.zero_le _, rfl, by rw [countsK_zero]; exact hbuf, hbel⟩
    case round =>
      obtain ⟨k, hk, rfl, hbk, hbe⟩ := hrel
      clear hmk hbuf hbel hsz
      by_cases hlt : k < a.size
      · obtain ⟨c, hc⟩ : ∃ c, (nb a)[k]? = some c := ⟨_, nb_get? a k hlt⟩
        obtain ⟨hc1, hc2⟩ := wv_at Hv.out hc
        obtain ⟨d, rfl⟩ : ∃ d, c = 97 + d := ⟨c - 97, by omega⟩
        have hck : a[k].toNat = 97 + d := by have := nb_get? a k hlt; rw [hc] at this; injection this with this; exact this.symm
        have hd10 : d < 10 := by omega
        have hcell := hbk.cell (icells_at (countsK_at (nb a) k d hd10))
        have hfree := hbk.free (j := d) (by rw [icells_len, countsK_len]; exact hd10)
        have hle := count_le (nb a) k (97 + d)
        have Hset := Lib.hid (countsK_set (nb a) k d hc hd10)
        generalize ((nb a).take k).count (97 + d) = q at *
        clear hc
        have e97 : (((97 + d : Nat) : Int)) - 97 = (d : Int) := by omega
        go_wp2_with fail
        refine (impl_number _ _ (by omega) (by omega)).mono ?_
        rintro e v1 ⟨rfl, rfl⟩
        go_wp2_with fail
        go_roundw
        case rel => exact ⟨k + 1, by omega, by go_num, by rw [← Hset.out, ← icells_set]; exact hbk.set d _, hbe.setCell (Nat.le_refl _) _⟩
        case measure => simp [intOf]; omega
      · have hkn : k = a.size := by omega
        rw [hkn] at hbk
        go_wp2_with fail
        go_ret
        exact ⟨_, _, _, rfl, by rw [countsL, countsK_len], .inr ⟨_, rfl, Nat.le_refl _, by rw [countsL, nb_length]; exact hbk⟩, hbe⟩
end Go.Proofs.Ytljnakjphbnbjaa
