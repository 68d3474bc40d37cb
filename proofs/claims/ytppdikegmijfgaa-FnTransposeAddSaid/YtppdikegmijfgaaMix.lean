/- Sums of words return what the plain sums say. No condition. -/
import Derived.Test.YtppdikegmijfgaaWords
import Derived.StillTailTactics
set_option linter.unusedVariables false
namespace Go.Proofs.Ytppdikegmijfgaa
open Go.RowKit

/-- A letter and a multiple of another one. -/
def mix1 (t c d : Nat) : Nat := 97 + (c - 97 + t * (d - 97)) % 10
def mixL (t : Nat) (v w : List Nat) : List Nat := List.zipWith (mix1 t) v w
def cwOk (v w : List Nat) : Bool := g3 (wv v) (wv w) v.length w.length
def cw (t : Nat) (v w : List Nat) : List Nat := if cwOk v w then mixL t v w else []
theorem mixL_lt (t : Nat) (v w : List Nat) : ∀ x ∈ mixL t v w, x < 256 := by
  intro x hx
  obtain ⟨k, hk, rfl⟩ := List.mem_iff_getElem.1 hx
  simp [mixL, mix1]
  omega

theorem mix1_eq (t c d : Nat) (h1 : 97 ≤ c) (h3 : 97 ≤ d) : 97 + ((c : Int) - 97 + (t : Int) * ((d : Int) - 97)) % 10 = ((mix1 t c d : Nat) : Int) := by
  unfold mix1
  have e : ((t * (d - 97) : Nat) : Int) = (t : Int) * ((d : Int) - 97) := by rw [Int.natCast_mul]; congr 1; omega
  generalize t * (d - 97) = x at *
  rw [← e]
  omega

set_option maxHeartbeats 1000000 in
theorem impl_combineWords_ok (a b : ByteArray) (t : Nat) (w : World) (ht : t ≤ 20) (h : cwOk (nb a) (nb b) = true) :
    Calls Try.prog 25 #[.string a, .string b, .int .i64 t] w (RetSB w (mixL t (nb a) (nb b)) true) := by
  obtain ⟨ha, hb, hl⟩ := g3_yes h
  have la := wv_len ha
  rw [nb_length] at la
  have hma : a.size ≤ maxLen := by unfold maxLen; omega
  have hl' : a.size = b.size := by rw [← nb_length, ← nb_length]; exact hl
  have hmb : b.size ≤ maxLen := by unfold maxLen; omega
  have hn : ((a.size : Int) != (b.size : Int)) = false := by rw [bne_eq_false_iff_eq]; omega
  have hL : (mixL t (nb a) (nb b)).length = (nb a).length := by simp [mixL]; omega
  have Hha := Lib.hid ha
  have Hhb := Lib.hid hb
  have Hl := Lib.hid hl
  have Hl' := Lib.hid hl'
  have HL := Lib.hid hL
  have lb : b.size ≤ 200 := by omega
  have lab : a.size ≤ b.size := by omega
  obtain ⟨cap, w1, hconv, hbuf, hbel, hsz⟩ := to_bytes a w
  clear hl hl' hL
  go_enter Try.func25, Try.ntmps25
  go_wp2_with (go_at_call 16; refine (impl_WordValid _ _ (by assumption)).mono ?_; rintro e w' ⟨rfl, rfl⟩)
  go_loopw [29] (fun i wr => ∃ k : Nat, k ≤ a.size ∧ i = .int .i64 k ∧ Buf wr w.heap.size 5 (bcells (mix (mixL t (nb a) (nb b)) (nb a) k)) ∧ Below w.heap.size w wr) (fun i _ => a.size - (intOf i).toNat)
  case atStart => exact ⟨0, Nat.zero_le _, rfl, by rw [mix_zero]; exact hbuf, hbel⟩
  case round =>
    obtain ⟨k, hk, rfl, hbk, hbe⟩ := hrel
    clear hconv hbuf hbel hsz
    by_cases hlt : k < a.size
    · have hkb : k < b.size := by omega
      obtain ⟨c, hc⟩ : ∃ c, (nb a)[k]? = some c := ⟨_, nb_get? a k hlt⟩
      obtain ⟨d, hd⟩ : ∃ d, (nb b)[k]? = some d := ⟨_, nb_get? b k (by omega)⟩
      obtain ⟨hc1, hc2⟩ := wv_at Hha.out hc
      obtain ⟨hd1, hd2⟩ := wv_at Hhb.out hd
      have hdk : b[k].toNat = d := by have := nb_get? b k (by omega); rw [hd] at this; injection this with this; exact this.symm
      have hcell := hbk.cell (bcells_at ((mix_at _ _ k HL.out (by rw [nb_length]; exact hlt)).trans hc))
      have hfree := hbk.free (j := k) (by rw [bcells_len, mix_len _ _ _ HL.out, nb_length]; exact hlt)
      have Hn := Lib.hid (zipWith_at (f := mix1 t) hc hd)
      clear hc hd
      go_wp2_with fail
      have hm1 : (0 : Int) ≤ (t : Int) * ((d : Int) - 97) := Int.mul_nonneg (by omega) (by omega)
      have hm2 : (t : Int) * ((d : Int) - 97) ≤ 20 * 9 := Int.mul_le_mul (by omega) (by omega) (by omega) (by omega)
      have hwr : IntKind.i64.wrap ((t : Int) * ((d : Int) - 97)) = (t : Int) * ((d : Int) - 97) := IntWalk.i64_in _ (by omega)
      refine wp_region_still_tail 14 (by kernel_rfl) (by kernel_rfl) ?_
      simp only [List.take_succ_cons, List.take_zero, List.drop_succ_cons, List.drop_zero]
      repeat (first | still_step | still_call (quietly (impl_number _ _ (by omega) (by omega))) | still_call (quietly (impl_shifted _ _ _ (by omega) (by omega) (by omega) (by omega))))
      refine wpStill_nil ?_
      clear hwr
      change wpList _ _ _ _ _ wr.drew
      go_wp2
      go_roundw
      case rel => exact ⟨k + 1, by omega, by go_num, (hbk.put HL.out Hn.out (mix1_eq t c d hc1 hd1)).drew, (hbe.setCell (Nat.le_refl _) _).drew⟩
      case measure => simp [intOf]; omega
    · obtain ⟨r, hr, hrun⟩ := of_bytes wr w.heap.size a.size cap (mixL t (nb a) (nb b)) (by
        obtain rfl : k = a.size := by omega
        have := hbk
        rwa [← nb_length a, ← HL.out, mix_all _ _ (Nat.le_of_eq HL.out.symm)] at this) (by rw [HL.out, nb_length]) (mixL_lt _ _ _)
      have Hr := Lib.hid hr
      clear hr
      go_wp2
      go_ret2
      exact ⟨r, rfl, Hr.out, hbe⟩

theorem impl_combineWords_no (a b : ByteArray) (t : Nat) (w : World) (h : cwOk (nb a) (nb b) = false) (hma : a.size ≤ maxLen) (hmb : b.size ≤ maxLen) :
    Calls Try.prog 25 #[.string a, .string b, .int .i64 t] w (RetSB w [] false) := by
  unfold cwOk at h
  rw [nb_length, nb_length] at h
  rcases g3_no h with h1 | ⟨h1, h2⟩ | ⟨h1, h2, h3⟩
  all_goals
    clear h
    go_enter Try.func25, Try.ntmps25
    go_wp2_with (first | (go_at_call 16; refine (impl_WordValid _ _ (by assumption)).mono ?_; rintro e w' ⟨rfl, rfl⟩))
    go_ret2
    exact ⟨ByteArray.empty, rfl, rfl, Below.refl _ _⟩

theorem impl_combineWords (a b : ByteArray) (t : Nat) (w : World) (ht : t ≤ 20) (hma : a.size ≤ maxLen) (hmb : b.size ≤ maxLen) :
    Calls Try.prog 25 #[.string a, .string b, .int .i64 t] w (RetSB w (cw t (nb a) (nb b)) (cwOk (nb a) (nb b))) := by
  unfold cw
  cases h : cwOk (nb a) (nb b)
  · exact impl_combineWords_no a b t w h hma hmb
  · exact impl_combineWords_ok a b t w ht h
theorem impl_AddWords (a b : ByteArray) (w : World) (hma : a.size ≤ maxLen) (hmb : b.size ≤ maxLen) :
    Calls Try.prog 8 #[.string a, .string b] w (RetSB w (cw 1 (nb a) (nb b)) (cwOk (nb a) (nb b))) := by
  go_enter Try.func8, Try.ntmps8
  go_wp2_with fail
  refine (impl_combineWords a b 1 w (by omega) hma hmb).mono ?_
  rintro e w1 ⟨r, rfl, hr, hb⟩
  have Hr := Lib.hid hr
  clear hr
  go_wp2
  go_ret2
  exact ⟨r, rfl, Hr.out, hb⟩
end Go.Proofs.Ytppdikegmijfgaa
