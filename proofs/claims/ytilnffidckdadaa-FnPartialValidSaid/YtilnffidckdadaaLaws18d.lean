/- The walk of the law on words with gaps and words. No condition. -/
import Derived.Test.YtilnffidckdadaaDraw18b
import Derived.Test.YtilnffidckdadaaVal
import Derived.Test.YtilnffidckdadaaPlain18
set_option linter.unusedVariables false
namespace Go.Proofs.Ytilnffidckdadaa
open Go.RowKit

/-- Each gap filled with the letter a. -/
def fillA (l : List Nat) : List Nat := l.map fun c => if c = 45 then 97 else c
theorem wv_fillA (l : List Nat) : wv (fillA l) = pv l := by
  unfold wv pv fillA
  rw [List.length_map]
  congr 1
  rw [List.all_map]
  congr 1
  funext c
  simp only [Function.comp, isP, isL]
  by_cases h : c = 45
  · subst h; rfl
  · simp [h]

set_option maxHeartbeats 1000000 in
theorem walk_FnPartialValid (a0 : Option Addr) (len0 cap0 : Nat) (z0 : List Int) (w : World) (w0 : IsRow .u8 w a0 len0 cap0 z0) :
    Calls Try.prog 9 #[.slice a0 len0 cap0] w fun e w' => e = .returned (.bool true) ∧ Below w.heap.size w w' := by
  have hl := w0.len_le
  by_cases hbig : 1048576 < len0
  · clear w0
    go_enter Try.func9, Try.ntmps9
    go_wp2_with fail
    go_ret
    exact ⟨rfl, Below.refl _ _⟩
  · have W0 := Lib.hid w0
    clear w0
    go_enter Try.func9, Try.ntmps9
    go_wp2_with fail
    refine (spec_DrawPartialValid _ _ _ _ _ W0.out).mono ?_
    rintro e v1 ⟨p, rfl, hp, hb1⟩
    have hpm : p.size ≤ maxLen := by unfold maxLen; omega
    cases hv : pv (nb p)
    all_goals
      go_wp2_with fail
      refine (impl_PartialValid p v1 hpm).mono ?_
      rintro e v2 ⟨rfl, rfl⟩
      go_wp2_with fail
      refine (spec_PartialValid p v1 hpm).mono ?_
      rintro e v2 ⟨rfl, rfl⟩
      go_wp2_with fail
      go_loopw [5, 6] (fun o i wr => ∃ (k : Nat) (s : ByteArray), k ≤ p.size ∧ i = .int .i64 k ∧ o = .string s ∧ nb s = (fillA (nb p)).take k ∧ Below w.heap.size w wr) (fun _ i _ => p.size - (intOf i).toNat)
      case atStart => exact ⟨0, ByteArray.empty, Nat.zero_le _, rfl, rfl, rfl, hb1⟩
      case round =>
        obtain ⟨k, s, hk, rfl, rfl, hs, hbe⟩ := hrel
        have hss : s.size ≤ 1000 := by rw [← nb_length, hs, List.length_take]; omega
        have Hs := Lib.hid hs
        clear hs
        by_cases hlt : k < p.size
        · obtain ⟨c, hc⟩ : ∃ c, (nb p)[k]? = some c := ⟨_, nb_get? p k hlt⟩
          have hck : p[k].toNat = c := by have := nb_get? p k hlt; rw [hc] at this; injection this with this; exact this.symm
          have Hx := Lib.hid (take_snoc (fillA (nb p)) k (if c = 45 then 97 else c) (by simp [fillA, hc]))
          have Hone := Lib.hid (nb_one p k hlt)
          have hone' : (p.extract k (k + 1)).size ≤ 1 := by rw [← nb_length, nb_one p k hlt]; simp
          have Hck := Lib.hid hck
          clear hc
          cases hq : ((c : Int) == 45)
          · go_wp2
            go_roundw
            case rel => exact ⟨k + 1, _, by omega, by go_num, rfl, by rw [nb_append, Hs.out, Hone.out, Hck.out, Hx.out, if_neg (by rw [beq_eq_false_iff_ne] at hq; omega)], hbe⟩
            case measure => simp [intOf]; omega
          · go_wp2
            go_roundw
            case rel => exact ⟨k + 1, _, by omega, by go_num, rfl, by rw [nb_append, Hs.out, Hx.out, if_pos (by rw [beq_iff_eq] at hq; omega)]; rfl, hbe⟩
            case measure => simp [intOf]; omega
        · have hkp : k = p.size := by omega
          have hw : wv (nb s) = pv (nb p) := by
            rw [Hs.out, hkp, List.take_of_length_le (by simp [fillA, nb_length]), wv_fillA]
          rw [hv] at hw
          have hsm : s.size ≤ maxLen := by unfold maxLen; omega
          clear hkp
          go_wp2_with fail
          refine (impl_WordValid s wr hsm).mono ?_
          rintro e v3 ⟨rfl, rfl⟩
          go_wp2_with fail
          go_ret
          exact ⟨rfl, hbe⟩
end Go.Proofs.Ytilnffidckdadaa
