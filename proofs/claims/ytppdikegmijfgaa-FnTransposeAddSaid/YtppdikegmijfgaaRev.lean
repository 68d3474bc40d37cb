/- A word read backwards, and a word with a number added. No condition. -/
import Derived.Test.YtppdikegmijfgaaWords
import Derived.BigRegion
import Derived.StillTailTactics
set_option linter.unusedVariables false
namespace Go.Proofs.Ytppdikegmijfgaa
open Go.RowKit

/-- The first k and the last k places are of the reversed list. -/
def revK (l : List Nat) (k : Nat) : List Nat := (List.range l.length).map fun i => if i < k ∨ l.length ≤ i + k then l.getD (l.length - 1 - i) 0 else l.getD i 0
theorem revK_len (l : List Nat) (k : Nat) : (revK l k).length = l.length := by simp [revK]
theorem revK_zero (l : List Nat) : revK l 0 = l := by
  apply List.ext_getElem (by rw [revK_len])
  intro i h1 h2
  have h : ¬ (i < 0 ∨ l.length ≤ i + 0) := by omega
  simp only [revK, List.getElem_map, List.getElem_range, if_neg h]
  rw [List.getD_eq_getElem?_getD, List.getElem?_eq_getElem h2]
  rfl
theorem revK_at {l : List Nat} {k i : Nat} (hi : i < l.length) : (revK l k)[i]? = some (if i < k ∨ l.length ≤ i + k then l.getD (l.length - 1 - i) 0 else l.getD i 0) := by simp [revK, hi]
theorem revK_end {l : List Nat} {k : Nat} (h : l.length ≤ 2 * k + 1) : revK l k = l.reverse := by
  apply List.ext_getElem (by rw [revK_len, List.length_reverse])
  intro i h1 h2
  rw [revK_len] at h1
  have h3 : (revK l k)[i]? = some (l.getD (l.length - 1 - i) 0) := by
    rw [revK_at h1]
    by_cases hc : i < k ∨ l.length ≤ i + k
    · rw [if_pos hc]
    · rw [if_neg hc]
      have : i = l.length - 1 - i := by omega
      rw [← this]
  have h4 : l.getD (l.length - 1 - i) 0 = l.reverse[i] := by
    rw [List.getElem_reverse, List.getD_eq_getElem?_getD, List.getElem?_eq_getElem (by omega)]
    rfl
  rw [List.getElem?_eq_getElem (by rw [revK_len]; exact h1)] at h3
  injection h3 with h3
  rw [h3, h4]
theorem revK_step {l : List Nat} {k j a b : Nat} (hj : j + k + 1 = l.length) (hkj : k < j) (ha : l[k]? = some a) (hb : l[j]? = some b) : ((revK l k).set k b).set j a = revK l (k + 1) := by
  apply List.ext_getElem?
  intro i
  have hgk : l.getD k 0 = a := by rw [List.getD_eq_getElem?_getD, ha]; rfl
  have hgj : l.getD j 0 = b := by rw [List.getD_eq_getElem?_getD, hb]; rfl
  by_cases hi : i < l.length
  · rw [List.getElem?_set, List.getElem?_set, List.length_set, revK_len, revK_at hi, revK_at hi]
    by_cases e1 : j = i
    · subst e1
      rw [if_pos rfl, if_pos hi, if_pos (by omega), show l.length - 1 - j = k from by omega, hgk]
    · rw [if_neg e1]
      by_cases e2 : k = i
      · subst e2
        rw [if_pos rfl, if_pos hi, if_pos (by omega), show l.length - 1 - k = j from by omega, hgj]
      · rw [if_neg e2]
        by_cases hc : i < k ∨ l.length ≤ i + k
        · rw [if_pos hc, if_pos (by omega)]
        · rw [if_neg hc, if_neg (by omega)]
  · rw [List.getElem?_eq_none (by rw [List.length_set, List.length_set, revK_len]; omega), List.getElem?_eq_none (by rw [revK_len]; omega)]
theorem revK_k {l : List Nat} {k j : Nat} (hj : j + k + 1 = l.length) (hkj : k < j) : (revK l k)[k]? = l[k]? ∧ (revK l k)[j]? = l[j]? := by
  have h1 : ¬ (k < k ∨ l.length ≤ k + k) := by omega
  have h2 : ¬ (j < k ∨ l.length ≤ j + k) := by omega
  rw [revK_at (by omega), revK_at (by omega), if_neg h1, if_neg h2, List.getD_eq_getElem?_getD, List.getD_eq_getElem?_getD, List.getElem?_eq_getElem (by omega : k < l.length), List.getElem?_eq_getElem (by omega : j < l.length)]
  exact ⟨rfl, rfl⟩

set_option maxHeartbeats 2000000 in
theorem slices_Reverse_u8 (g n c : Nat) (l : List Nat) (w : World) (h : Buf w g 5 (bcells l)) (hn : l.length = n) (hn2 : n ≤ 100000) :
    Calls Try.prog 24 #[.slice (some ⟨g, 0, none⟩) n c] w fun e w' => e = .returned (.tuple #[]) ∧ Buf w' g 5 (bcells l.reverse) ∧ w.grownBy w' (some g) := by
  have Hn := Lib.hid hn
  clear hn
  by_cases h0 : n = 0
  · subst h0
    have hl : l = [] := List.eq_nil_of_length_eq_zero Hn.out
    subst hl
    go_enter Try.func24, Try.ntmps24
    go_wp2
    refine wp_loop_rounds 1 ?_
    rw [rounds_succ]
    go_wp2
    go_end0
    exact ⟨rfl, h, World.grownBy.refl _ _⟩
  · go_enter Try.func24, Try.ntmps24
    go_wp2
    go_loopw [2, 3] (fun i j wr => ∃ k jn : Nat, jn + k + 1 = n ∧ i = .int .i64 k ∧ j = .int .i64 jn ∧ Buf wr g 5 (bcells (revK l k)) ∧ w.grownBy wr (some g)) (fun _ j _ => (intOf j).toNat)
    case atStart => exact ⟨0, n - 1, by omega, rfl, by go_num, by rw [revK_zero]; exact h, World.grownBy.refl _ _⟩
    case round =>
      obtain ⟨k, jn, hjk, rfl, rfl, hbk, hgr⟩ := hrel
      have hkn : k < n := by omega
      have hjn : jn < n := by omega
      have Hjk := Lib.hid hjk
      clear hjk
      by_cases hlt : k < jn
      · obtain ⟨a, ha⟩ : ∃ a, l[k]? = some a := ⟨_, List.getElem?_eq_getElem (by rw [Hn.out]; exact hkn)⟩
        obtain ⟨b, hb⟩ : ∃ b, l[jn]? = some b := ⟨_, List.getElem?_eq_getElem (by rw [Hn.out]; exact hjn)⟩
        have hr := revK_k (l := l) (by rw [Hn.out]; exact Hjk.out) hlt
        have hc1 := hbk.cell (bcells_at (hr.1.trans ha))
        have hc2 := hbk.cell (bcells_at (hr.2.trans hb))
        have hf1 := hbk.free (j := k) (by rw [bcells_len, revK_len, Hn.out]; exact hkn)
        have hf2 := hbk.free (j := jn) (by rw [bcells_len, revK_len, Hn.out]; exact hjn)
        have Hst := Lib.hid (revK_step (by rw [Hn.out]; exact Hjk.out) hlt ha hb)
        clear ha hb hr
        go_wp2_with fail
        go_region
        go_wp2
        go_roundw
        case rel =>
          have hb2 := (hbk.set k (.int .u8 (b : Int))).set jn (.int .u8 (a : Int))
          rw [bcells_set, bcells_set, Hst.out] at hb2
          refine ⟨k + 1, jn - 1, by have := Hjk.out; omega, by go_num, by go_num, hb2.drew, ?_⟩
          exact ⟨hgr.os, hgr.tape, hgr.output, by simpa [World.setCell] using hgr.size, fun i hi hne => ((Below.heap_setCell _ _ _ i (fun e => hne (by rw [e]))).trans (Below.heap_setCell wr _ _ i (fun e => hne (by rw [e])))).trans (hgr.block i hi hne)⟩
        case measure => simp [intOf]; omega
      · have hend := Lib.hid (revK_end (l := l) (k := k) (by have := Hjk.out; rw [Hn.out]; omega))
        go_wp2
        go_end0
        exact ⟨rfl, by rw [← hend.out]; exact hbk, hgr⟩

def rvW (l : List Nat) : List Nat := if wv l then l.reverse else []
set_option maxHeartbeats 1000000 in
theorem impl_ReverseWord (a : ByteArray) (w : World) (hma : a.size ≤ maxLen) :
    Calls Try.prog 7 #[.string a] w (RetS w (rvW (nb a))) := by
  cases hv : wv (nb a)
  · have hr : rvW (nb a) = [] := by rw [rvW, hv]; rfl
    rw [hr]
    clear hr
    go_enter Try.func7, Try.ntmps7
    go_wp2_with fail
    refine (impl_WordValid _ _ hma).mono ?_
    rintro e v0 ⟨rfl, rfl⟩
    go_wp2_with fail
    go_ret
    exact ⟨ByteArray.empty, rfl, rfl, Below.refl _ _⟩
  · have hr : rvW (nb a) = (nb a).reverse := by rw [rvW, hv]; rfl
    rw [hr]
    clear hr
    have la := wv_len hv
    rw [nb_length] at la
    obtain ⟨cap, w1, hconv, hbuf, hbel, hsz⟩ := to_bytes a w
    go_enter Try.func7, Try.ntmps7
    go_wp2_with fail
    refine (impl_WordValid _ _ hma).mono ?_
    rintro e v0 ⟨rfl, rfl⟩
    go_wp2_with fail
    refine (slices_Reverse_u8 w.heap.size a.size cap (nb a) w1 hbuf (nb_length a) (by omega)).mono ?_
    rintro e v1 ⟨rfl, hb1, hg1⟩
    have hB1 := hbel.grown hg1 (Nat.le_of_lt hsz) (fun k hk => by injection hk with hk; omega)
    obtain ⟨r, hr, hrun⟩ := of_bytes v1 w.heap.size a.size cap (nb a).reverse hb1 (by rw [List.length_reverse, nb_length]) (fun x hx => nb_lt x (by simpa using hx))
    have Hr := Lib.hid hr
    clear hr hconv
    go_wp2_with fail
    go_ret
    exact ⟨r, rfl, Hr.out, hB1⟩
def shW (n : Nat) (l : List Nat) : List Nat := if wv l && decide (n < 10) then l.map (fun c => 97 + (c - 97 + n) % 10) else []
theorem shL_lt (n : Nat) (l : List Nat) : ∀ x ∈ l.map (fun c => 97 + (c - 97 + n) % 10), x < 256 := by
  intro x hx
  simp only [List.mem_map] at hx
  obtain ⟨c, _, rfl⟩ := hx
  omega
end Go.Proofs.Ytppdikegmijfgaa
