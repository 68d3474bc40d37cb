/- The walk of the law on orders of places. No condition. -/
import Derived.Test.YtbekeaijkfmgbaaDraw17
import Derived.Test.YtbekeaijkfmgbaaPlaces
import Derived.Test.YtbekeaijkfmgbaaPlain17b
set_option linter.unusedVariables false
namespace Go.Proofs.Ytbekeaijkfmgbaa
open Go.RowKit

def upF (zs : List Int) (i : Nat) : Bool := decide (∀ j, j < i → (j : Int) ∈ zs)
def inB (zs : List Int) (i k : Nat) : Bool := decide ((i : Int) ∈ zs.take k)
theorem upF_succ (zs : List Int) (i : Nat) (h : upF zs i = true) : upF zs (i + 1) = inB zs i zs.length := by
  unfold upF inB at *
  rw [decide_eq_true_eq] at h
  rw [List.take_length, decide_eq_decide]
  constructor
  · intro h2; exact h2 i (by omega)
  · intro h2 j hj
    rcases Nat.lt_or_ge j i with h3 | h3
    · exact h j h3
    · obtain rfl : j = i := by omega
      exact h2
theorem upF_full {zs : List Int} {i : Nat} (hl : zs.length ≤ 200) (hi : i ≤ zs.length) (h : upF zs i = false ∨ i = zs.length) : upF zs i = plv zs := by
  rw [plv_full]
  have hf : full zs = upF zs zs.length := by unfold full upF; rw [decide_eq_true hl, Bool.true_and]
  rw [hf]
  rcases h with h | h
  · rw [h]
    symm
    unfold upF at *
    rw [decide_eq_false_iff_not] at h ⊢
    intro h2
    exact h fun j hj => h2 j (by omega)
  · rw [h]
theorem inB_zero (zs : List Int) (i : Nat) : inB zs i 0 = false := by simp [inB]
theorem inB_keep {zs : List Int} {i k : Nat} (h : inB zs i k = true) : inB zs i (k + 1) = true := by
  unfold inB at *
  rw [decide_eq_true_eq] at *
  exact (List.take_sublist_take_left (Nat.le_succ k)).subset h
theorem inB_step {zs : List Int} {i k : Nat} {z : Int} (h : inB zs i k = false) (hz : zs[k]? = some z) : inB zs i (k + 1) = (z == (i : Int)) := by
  unfold inB at *
  rw [decide_eq_false_iff_not] at h
  rw [take_snoc zs k z hz, Bool.eq_iff_iff]
  simp only [decide_eq_true_eq, List.mem_append, List.mem_singleton, beq_iff_eq]
  constructor
  · rintro (h1 | h1)
    · exact absurd h1 h
    · exact h1.symm
  · intro h1; exact .inr h1.symm

set_option maxHeartbeats 2000000 in
theorem walk_FnPlacesValid (a0 : Option Addr) (len0 cap0 : Nat) (z0 : List Int) (w : World) (w0 : IsRow .u8 w a0 len0 cap0 z0) :
    Calls Try.prog 4 #[.slice a0 len0 cap0] w fun e w' => e = .returned (.bool true) ∧ Below w.heap.size w w' := by
  have hl := w0.len_le
  by_cases hbig : 1048576 < len0
  · clear w0
    go_enter Try.func4, Try.ntmps4
    go_wp2_with fail
    go_ret
    exact ⟨rfl, Below.refl _ _⟩
  · have W0 := Lib.hid w0
    clear w0
    go_enter Try.func4, Try.ntmps4
    go_wp2_with fail
    refine (spec_DrawPlacesValid _ _ _ _ _ W0.out).mono ?_
    rintro e v1 ⟨A, n, c, zs, rfl, hlz, hn, ho, hb1⟩
    have Hl := Lib.hid hlz
    have hI := ho.ints
    clear hlz ho
    have hn200 : decide ((n : Int) ≤ 200) = true := by simp; omega
    go_wp2_with fail
    refine (impl_PlacesValid _ _ _ _ _ hI Hl.out (by omega)).mono ?_
    rintro e v2 ⟨rfl, hb2⟩
    have hB2 := bthen hb1 hb2
    have hI2 := hI.next hb2
    go_wp2_with fail
    refine (spec_PlacesValid _ _ _ _ _ hI2 Hl.out (by omega)).mono ?_
    rintro e v3 ⟨rfl, hb3⟩
    have hB3 := bthen hB2 hb3
    have hI3 := hI2.next hb3
    clear hI hI2
    go_wp2_with fail
    go_loop [5, 6, 7, 8] (fun g i _ _ => ∃ (j : Nat), j ≤ n ∧ i = .int .i64 j ∧ g = .bool (upF zs j)) (fun _ i _ _ => n - (intOf i).toNat)
    case atStart => exact ⟨0, Nat.zero_le _, rfl, by simp [upF]⟩
    case round =>
      obtain ⟨j, hj, rfl, rfl⟩ := hrel
      by_cases hlt : j < n
      · cases hg : upF zs j
        · have Hg := Lib.hid hg
          go_wp2_with fail
          go_ret
          exact ⟨ret_bool (by rw [← upF_full (by rw [Hl.out]; omega) (by rw [Hl.out]; exact hj) (.inl Hg.out), Hg.out]; rfl), hB3⟩
        · have Hg := Lib.hid hg
          go_wp2_with fail
          go_loop [7, 8] (fun s i => ∃ (k : Nat), k ≤ n ∧ i = .int .i64 k ∧ s = .bool (inB zs j k)) (fun _ i => n - (intOf i).toNat)
          case atStart => exact ⟨0, Nat.zero_le _, rfl, by rw [inB_zero]⟩
          case round =>
            obtain ⟨k, hk, rfl, rfl⟩ := hrel
            by_cases hkl : k < n
            · obtain ⟨z, hz⟩ := get_some zs k (by rw [Hl.out]; exact hkl)
              cases hin : inB zs j k
              · obtain ⟨b, off, rfl, hbl, hc⟩ := hI3.at_ hz
                have Hs := Lib.hid (inB_step hin hz)
                clear hz
                go_wp2
                go_round
                case rel => exact ⟨k + 1, by omega, by go_num, by rw [Hs.out]⟩
                case measure => simp [intOf]; omega
              · have Hs := Lib.hid (inB_keep hin)
                clear hz
                go_wp2
                go_round
                case rel => exact ⟨k + 1, by omega, by go_num, by rw [Hs.out]⟩
                case measure => simp [intOf]; omega
            · have hkn : k = n := by omega
              have Hs : Hid (inB zs j k = upF zs (j + 1)) := by show _ = _; rw [upF_succ zs j Hg.out, Hl.out, hkn]
              go_wp2
              go_round
              case rel => exact ⟨j + 1, by omega, by go_num, by rw [Hs.out]⟩
              case measure => simp [intOf]; omega
      · have hjn : j = n := by omega
        have HF : Hid (upF zs n = plv zs) := upF_full (by rw [Hl.out]; omega) (by rw [Hl.out]; exact Nat.le_refl _) (.inr Hl.out.symm)
        go_wp2_with fail
        go_ret
        exact ⟨ret_bool (by rw [HF.out]; simp), hB3⟩
end Go.Proofs.Ytbekeaijkfmgbaa
