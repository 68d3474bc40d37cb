/- Permutations: the program applies them as the plain function says. No condition. Written by mk_perm2.py. -/
import Derived.Test.YtppdikegmijfgaaPermT
set_option linter.unusedVariables false
namespace Go.Proofs.Ytppdikegmijfgaa
open Go.RowKit

theorem pL_len (l : List Nat) : (pL l).length = 10 := by
  unfold pL
  split
  · rename_i h; rw [dig_len, pOk_len h]
  · simp
theorem okK_at {l : List Nat} : ∀ m, okK l m = true → ∀ k, k < m → isL (l.getD k 0) = true
  | 0, _, k, hk => absurd hk (by omega)
  | m + 1, h, k, hk => by
    rw [okK, Bool.and_eq_true, Bool.and_eq_true] at h
    rcases Nat.lt_or_ge k m with h1 | h1
    · exact okK_at m h.1 k h1
    · obtain rfl : k = m := by omega
      exact h.2.1
theorem pL_lt (l : List Nat) {k x : Nat} (h : (pL l)[k]? = some x) : x < 10 := by
  unfold pL at h
  split at h
  · rename_i hp
    have hl := pOk_len hp
    have hk : k < l.length := by have := (List.getElem?_eq_some_iff.1 h).1; rwa [dig_len] at this
    obtain ⟨c, hc⟩ : ∃ c, l[k]? = some c := ⟨_, List.getElem?_eq_getElem hk⟩
    rw [dig_at hc] at h
    injection h with h
    simp only [pOk, Bool.and_eq_true] at hp
    have := okK_at 10 hp.2 k (by omega)
    rw [List.getD_eq_getElem?_getD, hc] at this
    simp only [Option.getD_some] at this
    have := isL_bd this
    omega
  · rw [List.getElem?_replicate] at h
    split at h
    · injection h with h; omega
    · cases h
theorem permOf_lit (p : ByteArray) (hm : p.size ≤ maxLen) : ∃ x0 x1 x2 x3 x4 x5 x6 x7 x8 x9 : Nat, pL (nb p) = [x0, x1, x2, x3, x4, x5, x6, x7, x8, x9] ∧ ∀ w, Calls Try.prog 27 #[.string p] w fun e w' => e = .returned (.tuple #[.agg #[.int .u8 (x0 : Int), .int .u8 (x1 : Int), .int .u8 (x2 : Int), .int .u8 (x3 : Int), .int .u8 (x4 : Int), .int .u8 (x5 : Int), .int .u8 (x6 : Int), .int .u8 (x7 : Int), .int .u8 (x8 : Int), .int .u8 (x9 : Int)], .bool (pOk (nb p))]) ∧ Below w.heap.size w w' := by
  have ht := ten (pL (nb p)) (pL_len _)
  refine ⟨_, _, _, _, _, _, _, _, _, _, ht, fun w => ?_⟩
  refine (impl_permOf p w hm).mono ?_
  rintro e w' ⟨rfl, hb⟩
  refine ⟨?_, hb⟩
  conv => lhs; rw [ht]
  rfl
set_option maxHeartbeats 1000000 in
theorem impl_PermValid (p : ByteArray) (w : World) (hm : p.size ≤ maxLen) :
    Calls Try.prog 11 #[.string p] w fun e w' => e = .returned (.bool (pOk (nb p))) ∧ Below w.heap.size w w' := by
  obtain ⟨x0, x1, x2, x3, x4, x5, x6, x7, x8, x9, hx, hpo⟩ := permOf_lit p hm
  have Hx := Lib.hid hx
  have hzv := zv10
  clear hx
  go_enter Try.func11, Try.ntmps11
  go_wp2_with fail
  refine (hpo _).mono ?_
  rintro e v1 ⟨rfl, hb1⟩
  clear hpo
  have hz := zero10 v1
  have hbz := bthen hb1 ((Below.refl v1.heap.size v1).alloc (Nat.le_refl _) (.cells zc10 44))
  generalize hv2 : v1.alloc (.cells zc10 44) = w2 at hz hbz
  have d0 := hz.cell (j := 0) rfl
  have f0 := hz.free (j := 0) (by decide)
  have d1 := hz.cell (j := 1) rfl
  have f1 := hz.free (j := 1) (by decide)
  have d2 := hz.cell (j := 2) rfl
  have f2 := hz.free (j := 2) (by decide)
  have d3 := hz.cell (j := 3) rfl
  have f3 := hz.free (j := 3) (by decide)
  have d4 := hz.cell (j := 4) rfl
  have f4 := hz.free (j := 4) (by decide)
  have d5 := hz.cell (j := 5) rfl
  have f5 := hz.free (j := 5) (by decide)
  have d6 := hz.cell (j := 6) rfl
  have f6 := hz.free (j := 6) (by decide)
  have d7 := hz.cell (j := 7) rfl
  have f7 := hz.free (j := 7) (by decide)
  have d8 := hz.cell (j := 8) rfl
  have f8 := hz.free (j := 8) (by decide)
  have d9 := hz.cell (j := 9) rfl
  have f9 := hz.free (j := 9) (by decide)
  have HB : Hid (Buf ((((((((((w2.setCell ⟨v1.heap.size, 0, none⟩ (.int .u8 (x0 : Int))).setCell ⟨v1.heap.size, 1, none⟩ (.int .u8 (x1 : Int))).setCell ⟨v1.heap.size, 2, none⟩ (.int .u8 (x2 : Int))).setCell ⟨v1.heap.size, 3, none⟩ (.int .u8 (x3 : Int))).setCell ⟨v1.heap.size, 4, none⟩ (.int .u8 (x4 : Int))).setCell ⟨v1.heap.size, 5, none⟩ (.int .u8 (x5 : Int))).setCell ⟨v1.heap.size, 6, none⟩ (.int .u8 (x6 : Int))).setCell ⟨v1.heap.size, 7, none⟩ (.int .u8 (x7 : Int))).setCell ⟨v1.heap.size, 8, none⟩ (.int .u8 (x8 : Int))).setCell ⟨v1.heap.size, 9, none⟩ (.int .u8 (x9 : Int))) v1.heap.size 44 (bcells [x0, x1, x2, x3, x4, x5, x6, x7, x8, x9])) := ((((((((((hz.set 0 _).set 1 _).set 2 _).set 3 _).set 4 _).set 5 _).set 6 _).set 7 _).set 8 _).set 9 _)
  have hbe0 : Below w.heap.size w ((((((((((w2.setCell ⟨v1.heap.size, 0, none⟩ (.int .u8 (x0 : Int))).setCell ⟨v1.heap.size, 1, none⟩ (.int .u8 (x1 : Int))).setCell ⟨v1.heap.size, 2, none⟩ (.int .u8 (x2 : Int))).setCell ⟨v1.heap.size, 3, none⟩ (.int .u8 (x3 : Int))).setCell ⟨v1.heap.size, 4, none⟩ (.int .u8 (x4 : Int))).setCell ⟨v1.heap.size, 5, none⟩ (.int .u8 (x5 : Int))).setCell ⟨v1.heap.size, 6, none⟩ (.int .u8 (x6 : Int))).setCell ⟨v1.heap.size, 7, none⟩ (.int .u8 (x7 : Int))).setCell ⟨v1.heap.size, 8, none⟩ (.int .u8 (x8 : Int))).setCell ⟨v1.heap.size, 9, none⟩ (.int .u8 (x9 : Int))) := ((((((((((hbz.setCell hb1.size _).setCell hb1.size _).setCell hb1.size _).setCell hb1.size _).setCell hb1.size _).setCell hb1.size _).setCell hb1.size _).setCell hb1.size _).setCell hb1.size _).setCell hb1.size _)
  clear hz
  go_wp2_with fail
  go_ret
  exact ⟨rfl, hbe0⟩
def ap1 (L : List Nat) (c : Nat) : Nat := 97 + L.getD (c - 97) 0
def apL (l v : List Nat) : List Nat := v.map (ap1 (pL l))
def ap (l v : List Nat) : List Nat := if pOk l && wv v then apL l v else []
theorem ap1_bd (l : List Nat) (c : Nat) : 97 ≤ ap1 (pL l) c ∧ ap1 (pL l) c ≤ 106 := by
  unfold ap1
  rw [List.getD_eq_getElem?_getD]
  cases h : (pL l)[c - 97]? with
  | none => simp
  | some x => have := pL_lt l h; simp; omega
theorem apL_lt (l v : List Nat) : ∀ x ∈ apL l v, x < 256 := by
  intro x hx
  simp only [apL, List.mem_map] at hx
  obtain ⟨c, _, rfl⟩ := hx
  have := ap1_bd l c
  omega
theorem apL_len (l v : List Nat) : (apL l v).length = v.length := by simp [apL]
theorem apL_at {l v : List Nat} {k c : Nat} (h : v[k]? = some c) : (apL l v)[k]? = some (ap1 (pL l) c) := by simp [apL, h]
set_option maxHeartbeats 2000000 in
theorem impl_ApplyPerm (p a : ByteArray) (w : World) (hm : p.size ≤ maxLen) (hma : a.size ≤ maxLen) :
    Calls Try.prog 10 #[.string p, .string a] w (RetS w (ap (nb p) (nb a))) := by
  obtain ⟨x0, x1, x2, x3, x4, x5, x6, x7, x8, x9, hx, hpo⟩ := permOf_lit p hm
  have Hx := Lib.hid hx
  have hzv := zv10
  clear hx
  go_enter Try.func10, Try.ntmps10
  go_wp2_with fail
  refine (hpo _).mono ?_
  rintro e v1 ⟨rfl, hb1⟩
  clear hpo
  have hz := zero10 v1
  have hbz := bthen hb1 ((Below.refl v1.heap.size v1).alloc (Nat.le_refl _) (.cells zc10 44))
  generalize hv2 : v1.alloc (.cells zc10 44) = w2 at hz hbz
  have d0 := hz.cell (j := 0) rfl
  have f0 := hz.free (j := 0) (by decide)
  have d1 := hz.cell (j := 1) rfl
  have f1 := hz.free (j := 1) (by decide)
  have d2 := hz.cell (j := 2) rfl
  have f2 := hz.free (j := 2) (by decide)
  have d3 := hz.cell (j := 3) rfl
  have f3 := hz.free (j := 3) (by decide)
  have d4 := hz.cell (j := 4) rfl
  have f4 := hz.free (j := 4) (by decide)
  have d5 := hz.cell (j := 5) rfl
  have f5 := hz.free (j := 5) (by decide)
  have d6 := hz.cell (j := 6) rfl
  have f6 := hz.free (j := 6) (by decide)
  have d7 := hz.cell (j := 7) rfl
  have f7 := hz.free (j := 7) (by decide)
  have d8 := hz.cell (j := 8) rfl
  have f8 := hz.free (j := 8) (by decide)
  have d9 := hz.cell (j := 9) rfl
  have f9 := hz.free (j := 9) (by decide)
  have HB : Hid (Buf ((((((((((w2.setCell ⟨v1.heap.size, 0, none⟩ (.int .u8 (x0 : Int))).setCell ⟨v1.heap.size, 1, none⟩ (.int .u8 (x1 : Int))).setCell ⟨v1.heap.size, 2, none⟩ (.int .u8 (x2 : Int))).setCell ⟨v1.heap.size, 3, none⟩ (.int .u8 (x3 : Int))).setCell ⟨v1.heap.size, 4, none⟩ (.int .u8 (x4 : Int))).setCell ⟨v1.heap.size, 5, none⟩ (.int .u8 (x5 : Int))).setCell ⟨v1.heap.size, 6, none⟩ (.int .u8 (x6 : Int))).setCell ⟨v1.heap.size, 7, none⟩ (.int .u8 (x7 : Int))).setCell ⟨v1.heap.size, 8, none⟩ (.int .u8 (x8 : Int))).setCell ⟨v1.heap.size, 9, none⟩ (.int .u8 (x9 : Int))) v1.heap.size 44 (bcells [x0, x1, x2, x3, x4, x5, x6, x7, x8, x9])) := ((((((((((hz.set 0 _).set 1 _).set 2 _).set 3 _).set 4 _).set 5 _).set 6 _).set 7 _).set 8 _).set 9 _)
  have hbe0 : Below w.heap.size w ((((((((((w2.setCell ⟨v1.heap.size, 0, none⟩ (.int .u8 (x0 : Int))).setCell ⟨v1.heap.size, 1, none⟩ (.int .u8 (x1 : Int))).setCell ⟨v1.heap.size, 2, none⟩ (.int .u8 (x2 : Int))).setCell ⟨v1.heap.size, 3, none⟩ (.int .u8 (x3 : Int))).setCell ⟨v1.heap.size, 4, none⟩ (.int .u8 (x4 : Int))).setCell ⟨v1.heap.size, 5, none⟩ (.int .u8 (x5 : Int))).setCell ⟨v1.heap.size, 6, none⟩ (.int .u8 (x6 : Int))).setCell ⟨v1.heap.size, 7, none⟩ (.int .u8 (x7 : Int))).setCell ⟨v1.heap.size, 8, none⟩ (.int .u8 (x8 : Int))).setCell ⟨v1.heap.size, 9, none⟩ (.int .u8 (x9 : Int))) := ((((((((((hbz.setCell hb1.size _).setCell hb1.size _).setCell hb1.size _).setCell hb1.size _).setCell hb1.size _).setCell hb1.size _).setCell hb1.size _).setCell hb1.size _).setCell hb1.size _).setCell hb1.size _)
  clear hz
  cases hok : pOk (nb p)
  · have hr : ap (nb p) (nb a) = [] := by rw [ap, hok]; rfl
    have Hr0 := Lib.hid hr
    clear hr
    go_wp2_with fail
    go_ret
    exact ⟨ByteArray.empty, rfl, Hr0.out.symm, hbe0⟩
  · cases hv : wv (nb a)
    · have hr : ap (nb p) (nb a) = [] := by rw [ap, hok, hv]; rfl
      have Hr0 := Lib.hid hr
      clear hr
      go_wp2_with fail
      refine (impl_WordValid _ _ hma).mono ?_
      rintro e v3 ⟨rfl, rfl⟩
      go_wp2_with fail
      go_ret
      exact ⟨ByteArray.empty, rfl, Hr0.out.symm, hbe0⟩
    · have hr : ap (nb p) (nb a) = apL (nb p) (nb a) := by rw [ap, hok, hv]; rfl
      have Hr0 := Lib.hid hr
      clear hr
      have la := wv_len hv
      rw [nb_length] at la
      have HL : Hid ((apL (nb p) (nb a)).length = (nb a).length) := apL_len _ _
      have Hv := Lib.hid hv
      go_wp2_with fail
      refine (impl_WordValid _ _ hma).mono ?_
      rintro e v3 ⟨rfl, rfl⟩
      have hbe3 := hbe0
      clear hbe0
      generalize ((((((((((w2.setCell ⟨v1.heap.size, 0, none⟩ (.int .u8 (x0 : Int))).setCell ⟨v1.heap.size, 1, none⟩ (.int .u8 (x1 : Int))).setCell ⟨v1.heap.size, 2, none⟩ (.int .u8 (x2 : Int))).setCell ⟨v1.heap.size, 3, none⟩ (.int .u8 (x3 : Int))).setCell ⟨v1.heap.size, 4, none⟩ (.int .u8 (x4 : Int))).setCell ⟨v1.heap.size, 5, none⟩ (.int .u8 (x5 : Int))).setCell ⟨v1.heap.size, 6, none⟩ (.int .u8 (x6 : Int))).setCell ⟨v1.heap.size, 7, none⟩ (.int .u8 (x7 : Int))).setCell ⟨v1.heap.size, 8, none⟩ (.int .u8 (x8 : Int))).setCell ⟨v1.heap.size, 9, none⟩ (.int .u8 (x9 : Int))) = w3 at HB hbe3 ⊢
      obtain ⟨cap, w4, hconv, hbuf, hbel, hsz⟩ := to_bytes a w3
      have HB4 := Lib.hid (HB.out.next hbel)
      have Hlt := Lib.hid HB.out.lt
      have hw3 := hbe3.size
      clear HB hv2 d0 f0 d1 f1 d2 f2 d3 f3 d4 f4 d5 f5 d6 f6 d7 f7 d8 f8 d9 f9 hok hzv
      go_wp2_with fail
      go_loopw [25] (fun i wr => ∃ k : Nat, k ≤ a.size ∧ i = .int .i64 k ∧ Hid (Buf wr w3.heap.size 5 (bcells (mix (apL (nb p) (nb a)) (nb a) k))) ∧ Hid (Buf wr v1.heap.size 44 (bcells (pL (nb p)))) ∧ Below w3.heap.size w3 wr) (fun i _ => a.size - (intOf i).toNat)
      case atStart => exact ⟨0, Nat.zero_le _, rfl, (show Buf _ _ _ _ by rw [mix_zero]; exact hbuf), (show Buf _ _ _ _ by rw [Hx.out]; exact HB4.out), hbel⟩
      case round =>
        obtain ⟨k, hk, rfl, Hbk, Hbp, hbe⟩ := hrel
        clear hconv hbuf hbel hsz HB4
        by_cases hlt : k < a.size
        · obtain ⟨c, hc⟩ : ∃ c, (nb a)[k]? = some c := ⟨_, nb_get? a k hlt⟩
          obtain ⟨hc1, hc2⟩ := wv_at Hv.out hc
          obtain ⟨j, rfl⟩ : ∃ j, c = 97 + j := ⟨c - 97, by omega⟩
          have hj10 : j < 10 := by omega
          obtain ⟨x, hx⟩ : ∃ x, (pL (nb p))[j]? = some x := ⟨_, List.getElem?_eq_getElem (by rw [pL_len]; exact hj10)⟩
          have hx10 := pL_lt _ hx
          have hcell := Hbk.out.cell (bcells_at ((mix_at _ _ k HL.out (by rw [nb_length]; exact hlt)).trans hc))
          have hfree := Hbk.out.free (j := k) (by rw [bcells_len, mix_len _ _ _ HL.out, nb_length]; exact hlt)
          have hcx := Hbp.out.cell (bcells_at hx)
          have hap : ap1 (pL (nb p)) (97 + j) = 97 + x := by rw [ap1, Nat.add_sub_cancel_left, List.getD_eq_getElem?_getD, hx]; rfl
          have Hn := Lib.hid (apL_at (l := nb p) hc)
          have Hap := Lib.hid hap
          have ejn : (((97 + j : Nat) : Int)) - 97 = (j : Int) := by omega
          clear hc hx hap
          go_wp2_with fail
          refine (impl_number _ _ (by omega) (by omega)).mono ?_
          rintro e v5 ⟨rfl, rfl⟩
          go_wp2_with fail
          refine (impl_letter _ _ (by omega) (by omega)).mono ?_
          rintro e v6 ⟨rfl, rfl⟩
          go_wp2_with fail
          go_roundw
          case rel => exact ⟨k + 1, by omega, by go_num, Hbk.out.put HL.out Hn.out (by rw [Hap.out]; omega), Hbp.out.far (by show v1.heap.size ≠ w3.heap.size; have := Hlt.out; omega) _, hbe.setCell (Nat.le_refl _) _⟩
          case measure => simp [intOf]; omega
        · obtain ⟨r, hr, hrun⟩ := of_bytes wr w3.heap.size a.size cap (apL (nb p) (nb a)) (by
            obtain rfl : k = a.size := by omega
            have := Hbk.out
            rwa [← nb_length a, ← HL.out, mix_all _ _ (Nat.le_of_eq HL.out.symm)] at this) (by rw [HL.out, nb_length]) (apL_lt _ _)
          have Hr := Lib.hid hr
          clear hr
          go_wp2
          go_ret
          exact ⟨r, rfl, Hr.out.trans Hr0.out.symm, bthen hbe3 hbe⟩
end Go.Proofs.Ytppdikegmijfgaa
