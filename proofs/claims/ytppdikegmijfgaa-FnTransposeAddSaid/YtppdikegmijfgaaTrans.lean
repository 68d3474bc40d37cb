/- Transposing by columns and undoing it: both programs return what the plain functions say. No condition. -/
import Derived.Test.YtppdikegmijfgaaCol
set_option linter.unusedVariables false
namespace Go.Proofs.Ytppdikegmijfgaa
open Go.RowKit

def tpOk (l ks : List Nat) : Bool := wv l && kval ks
def tp (l ks : List Nat) : List Nat := if tpOk l ks then readL l (colL ks l.length) else []
def ut (l ks : List Nat) : List Nat := if tpOk l ks then readL l (undoL (colL ks l.length)) else []
theorem cp_yes {ks : List Nat} {n : Nat} (h : kval ks = true) (hn : n ≤ 200) : cp ks (n : Int) = colL ks n := by
  have : cpv ks (n : Int) = true := by rw [cpv, h, Bool.true_and, decide_eq_true_eq]; omega
  rw [cp, this, if_pos rfl, Int.toNat_natCast]
theorem tpOk_yes {l ks : List Nat} (h : tpOk l ks = true) : wv l = true ∧ kval ks = true := by simpa [tpOk] using h
theorem tpOk_of {l ks : List Nat} (h1 : wv l = true) (h2 : kval ks = true) : tpOk l ks = true := by rw [tpOk, h1, h2]; rfl
theorem tp_no {l ks : List Nat} (h : tpOk l ks = false) : tp l ks = [] := by rw [tp, h]; rfl
theorem ut_no {l ks : List Nat} (h : tpOk l ks = false) : ut l ks = [] := by rw [ut, h]; rfl
theorem tp_yes {l ks : List Nat} (h : tpOk l ks = true) : tp l ks = readL l (colL ks l.length) := by rw [tp, h]; rfl
theorem ut_yes {l ks : List Nat} (h : tpOk l ks = true) : ut l ks = readL l (undoL (colL ks l.length)) := by rw [ut, h]; rfl
theorem col_ok {l ks : List Nat} (h : tpOk l ks = true) : plv (colL ks l.length) = true ∧ (colL ks l.length).length = l.length :=
  ⟨colL_plv (tpOk_yes h).2 (wv_len (tpOk_yes h).1), colL_len (tpOk_yes h).2 _⟩
theorem rp_col {l ks : List Nat} (h : tpOk l ks = true) : rpOk l (colL ks l.length) = true ∧ rp l (colL ks l.length) = tp l ks := by
  have h1 : rpOk l (colL ks l.length) = true := by
    unfold rpOk g3
    rw [(tpOk_yes h).1, (col_ok h).1, (col_ok h).2]; simp
  exact ⟨h1, by rw [rp, h1, if_pos rfl, tp_yes h]⟩
theorem rp_ucol {l ks : List Nat} (h : tpOk l ks = true) : rpOk l (undoL (colL ks l.length)) = true ∧ rp l (undoL (colL ks l.length)) = ut l ks := by
  have h1 : rpOk l (undoL (colL ks l.length)) = true := by
    unfold rpOk g3
    rw [(tpOk_yes h).1, plv_undo (col_ok h).1, undoL_len, (col_ok h).2]; simp
  exact ⟨h1, by rw [rp, h1, if_pos rfl, ut_yes h]⟩
theorem tp_len {l ks : List Nat} (h : tpOk l ks = true) : (tp l ks).length = l.length := by rw [tp_yes h, readL_len, (col_ok h).2]
theorem ut_len {l ks : List Nat} (h : tpOk l ks = true) : (ut l ks).length = l.length := by rw [ut_yes h, readL_len, undoL_len, (col_ok h).2]
theorem wv_tp {l ks : List Nat} (h : tpOk l ks = true) : wv (tp l ks) = true := by rw [tp_yes h]; exact wv_readL (tpOk_yes h).1 (col_ok h).1 (col_ok h).2.symm
theorem wv_ut {l ks : List Nat} (h : tpOk l ks = true) : wv (ut l ks) = true := by rw [ut_yes h]; exact wv_readL (tpOk_yes h).1 (plv_undo (col_ok h).1) (by rw [undoL_len]; exact (col_ok h).2.symm)
theorem ut_tp {l ks : List Nat} (h : tpOk l ks = true) : ut (tp l ks) ks = l := by
  rw [ut_yes (tpOk_of (wv_tp h) (tpOk_yes h).2), tp_len h, tp_yes h]
  exact readL_undo (col_ok h).1 (col_ok h).2.symm
theorem tp_ut {l ks : List Nat} (h : tpOk l ks = true) : tp (ut l ks) ks = l := by
  rw [tp_yes (tpOk_of (wv_ut h) (tpOk_yes h).2), ut_len h, ut_yes h]
  exact undo_readL (col_ok h).1 (col_ok h).2.symm
set_option maxHeartbeats 800000 in
theorem impl_Transpose (a key : ByteArray) (w : World) (ha : a.size ≤ maxLen) (hs : key.size ≤ maxLen) :
    Calls Try.prog 5 #[.string a, .string key] w (RetSB w (tp (nb a) (nb key)) (tpOk (nb a) (nb key))) := by
  cases hv : wv (nb a)
  · have ho : tpOk (nb a) (nb key) = false := by rw [tpOk, hv]; rfl
    rw [tp_no ho, ho]
    clear ho
    go_enter Try.func5, Try.ntmps5
    go_wp2_with fail
    refine (impl_WordValid _ _ ha).mono ?_
    rintro e v0 ⟨rfl, rfl⟩
    go_wp2_with fail
    go_ret2
    exact ⟨ByteArray.empty, rfl, rfl, Below.refl _ _⟩
  · cases hk : kval (nb key)
    · have ho : tpOk (nb a) (nb key) = false := by rw [tpOk, hv, hk]; rfl
      rw [tp_no ho, ho]
      clear ho
      go_enter Try.func5, Try.ntmps5
      go_wp2_with fail
      refine (impl_WordValid _ _ ha).mono ?_
      rintro e v0 ⟨rfl, rfl⟩
      go_wp2_with fail
      refine (impl_keyValid _ _ hs).mono ?_
      rintro e v1 ⟨rfl, rfl⟩
      go_wp2_with fail
      go_ret2
      exact ⟨ByteArray.empty, rfl, rfl, Below.refl _ _⟩
    · have ho := tpOk_of hv hk
      have la := wv_len hv
      have Hcl := Lib.hid (colL_len hk (nb a).length)
      have Hcp := Lib.hid (cp_yes hk la)
      have Hrp := Lib.hid (rp_col ho)
      rw [nb_length] at la
      have Hnl := Lib.hid (nb_length a)
      rw [ho]
      clear ho
      go_enter Try.func5, Try.ntmps5
      go_wp2_with fail
      refine (impl_WordValid _ _ ha).mono ?_
      rintro e v0 ⟨rfl, rfl⟩
      go_wp2_with fail
      refine (impl_keyValid _ _ hs).mono ?_
      rintro e v1 ⟨rfl, rfl⟩
      go_wp2_with fail
      refine (impl_ColumnPlaces key _ _ hs).mono ?_
      rw [← Hnl.out, Hcp.out]
      rintro e v2 ⟨A2, n2, c2, rfl, hl2, ho2, hB2⟩
      have hI := ho2.ints
      have hn2 : n2 ≤ 200 := by have := Hcl.out; have := Hnl.out; omega
      have Hl2 := Lib.hid hl2
      clear hl2 ho2
      go_wp2_with fail
      refine (impl_ReadPlaces a _ _ _ _ _ ha hI Hl2.out (by omega)).mono ?_
      rw [Hrp.out.1, Hrp.out.2]
      rintro e v3 ⟨r, rfl, hr, hB3⟩
      have Hr := Lib.hid hr
      clear hr
      go_wp2_with fail
      go_ret2
      exact ⟨r, rfl, Hr.out, bthen hB2 hB3⟩
set_option maxHeartbeats 800000 in
theorem spec_Transpose (a key : ByteArray) (w : World) (ha : a.size ≤ maxLen) (hs : key.size ≤ maxLen) :
    Calls Try.prog 6 #[.string a, .string key] w (RetSB w (tp (nb a) (nb key)) (tpOk (nb a) (nb key))) := by
  cases hv : wv (nb a)
  · have ho : tpOk (nb a) (nb key) = false := by rw [tpOk, hv]; rfl
    rw [tp_no ho, ho]
    clear ho
    go_enter Try.func6, Try.ntmps6
    go_wp2_with fail
    refine (spec_WordValid _ _ ha).mono ?_
    rintro e v0 ⟨rfl, rfl⟩
    go_wp2_with fail
    go_ret2
    exact ⟨ByteArray.empty, rfl, rfl, Below.refl _ _⟩
  · cases hk : kval (nb key)
    · have ho : tpOk (nb a) (nb key) = false := by rw [tpOk, hv, hk]; rfl
      rw [tp_no ho, ho]
      clear ho
      go_enter Try.func6, Try.ntmps6
      go_wp2_with fail
      refine (spec_WordValid _ _ ha).mono ?_
      rintro e v0 ⟨rfl, rfl⟩
      go_wp2_with fail
      refine (spec_l17Key _ _ hs).mono ?_
      rintro e v1 ⟨rfl, rfl⟩
      go_wp2_with fail
      go_ret2
      exact ⟨ByteArray.empty, rfl, rfl, Below.refl _ _⟩
    · have ho := tpOk_of hv hk
      have la := wv_len hv
      have Hcl := Lib.hid (colL_len hk (nb a).length)
      have Hcp := Lib.hid (cp_yes hk la)
      have Hrp := Lib.hid (tp_yes ho)
      rw [nb_length] at la
      have Hnl := Lib.hid (nb_length a)
      have Hz : Hid (∀ (k : Nat) (z : Int), (colL (nb key) (nb a).length)[k]? = some z → 0 ≤ z ∧ z < a.size) := fun k z hz => by have := plv_at (col_ok ho).1 hz; rw [(col_ok ho).2, nb_length] at this; exact this
      rw [ho]
      clear ho
      go_enter Try.func6, Try.ntmps6
      go_wp2_with fail
      refine (spec_WordValid _ _ ha).mono ?_
      rintro e v0 ⟨rfl, rfl⟩
      go_wp2_with fail
      refine (spec_l17Key _ _ hs).mono ?_
      rintro e v1 ⟨rfl, rfl⟩
      go_wp2_with fail
      refine (spec_ColumnPlaces key _ _ hs).mono ?_
      rw [← Hnl.out, Hcp.out]
      rintro e v2 ⟨A2, n2, c2, rfl, hl2, ho2, hB2⟩
      have hI := ho2.ints
      have hn2 : n2 ≤ 200 := by have := Hcl.out; have := Hnl.out; omega
      have Hl2 := Lib.hid hl2
      clear hl2 ho2
      go_wp2_with fail
      refine (spec_l17Read a _ _ _ _ _ hI Hl2.out Hz.out (by omega) (by omega)).mono ?_
      rw [← Hrp.out]
      rintro e v3 ⟨r, rfl, hr, hB3⟩
      have Hr := Lib.hid hr
      clear hr
      go_wp2_with fail
      go_ret2
      exact ⟨r, rfl, Hr.out, bthen hB2 hB3⟩
end Go.Proofs.Ytppdikegmijfgaa
