/- Tapes: the tests, the sums and the changes return what the plain ones say. No condition. -/
import Derived.Test.YtibjiadgmlpceaaWords
import Derived.Test.YtibjiadgmlpceaaInts
import Derived.StillTailTactics
import Derived.Deep.RegionWith
set_option linter.unusedVariables false
namespace Go.Proofs.Ytibjiadgmlpceaa
open Go.RowKit

theorem ofInt_i64T (a : Nat) (ha : a < 9223372036854775808) : (BitVec.ofInt 64 (a : Int)).toNat = a := by
  rw [BitVec.ofInt_natCast, BitVec.toNat_ofNat]; exact Nat.mod_eq_of_lt (by omega)
theorem i64_xor_natT (a b : Nat) (ha : a < 9223372036854775808) (hb : b < 9223372036854775808) : bits .xor .i64 (a : Int) (b : Int) = ((a ^^^ b : Nat) : Int) := by
  have hx : a ^^^ b < 2 ^ 63 := Nat.xor_lt_two_pow (by omega) (by omega)
  show IntKind.i64.wrap ((BitVec.ofInt 64 (a : Int) ^^^ BitVec.ofInt 64 (b : Int)).toNat : Int) = _
  rw [BitVec.toNat_xor, ofInt_i64T a ha, ofInt_i64T b hb, IntKind.wrap_i64]
  omega
def isT (c : Nat) : Bool := decide (97 ≤ c ∧ c < 105)
def tv (l : List Nat) : Bool := decide (l.length ≤ 200) && l.all isT
theorem isT_bd {c : Nat} (h : isT c = true) : 97 ≤ c ∧ c ≤ 104 := by unfold isT at h; rw [decide_eq_true_eq] at h; omega
theorem isT_no {c : Nat} (h : isT c = false) : c < 97 ∨ 105 ≤ c := by unfold isT at h; rw [decide_eq_false_iff_not] at h; omega
theorem isT_L {c : Nat} (h : isT c = true) : isL c = true := by have := isT_bd h; unfold isL; rw [decide_eq_true_eq]; omega
theorem tv_len {l : List Nat} (h : tv l = true) : l.length ≤ 200 := by simp only [tv, Bool.and_eq_true, decide_eq_true_eq] at h; exact h.1
theorem tv_at {l : List Nat} {k c : Nat} (h : tv l = true) (hc : l[k]? = some c) : 97 ≤ c ∧ c ≤ 104 := by
  simp only [tv, Bool.and_eq_true, decide_eq_true_eq, List.all_eq_true] at h
  exact isT_bd (h.2 c (List.mem_of_getElem? hc))
theorem tv_mk {l : List Nat} (h1 : l.length ≤ 200) (h2 : ∀ (k c : Nat), l[k]? = some c → 97 ≤ c ∧ c ≤ 104) : tv l = true := by
  simp only [tv, Bool.and_eq_true, decide_eq_true_eq, List.all_eq_true]
  refine ⟨h1, fun c hc => ?_⟩
  obtain ⟨k, hk, rfl⟩ := List.mem_iff_getElem.1 hc
  have := h2 k _ (List.getElem?_eq_getElem hk)
  unfold isT; rw [decide_eq_true_eq]; omega
theorem tv_wv {l : List Nat} (h : tv l = true) : wv l = true := by
  simp only [tv, Bool.and_eq_true, decide_eq_true_eq, List.all_eq_true] at h
  simp only [wv, Bool.and_eq_true, decide_eq_true_eq, List.all_eq_true]
  exact ⟨h.1, fun c hc => isT_L (h.2 c hc)⟩
theorem tv_notwv {l : List Nat} (h : wv l = false) : tv l = false := by
  cases h2 : tv l
  · rfl
  · rw [tv_wv h2] at h; cases h
/-- The bitwise sum of two letters. -/
def xor1 (c d : Nat) : Nat := 97 + ((c - 97) ^^^ (d - 97))
def xorL (v w : List Nat) : List Nat := List.zipWith xor1 v w
def xtOk (v w : List Nat) : Bool := g3 (tv v) (tv w) v.length w.length
def xt (v w : List Nat) : List Nat := if xtOk v w then xorL v w else []
def deltaL (l : List Nat) : List Nat := xorL (l.take (l.length - 1)) (l.drop 1)
def dt (l : List Nat) : List Nat := if tv l then deltaL l else []
theorem xor1_bd {c d : Nat} (hc1 : 97 ≤ c) (hc : c ≤ 104) (hd1 : 97 ≤ d) (hd : d ≤ 104) : 97 ≤ xor1 c d ∧ xor1 c d ≤ 104 := by
  unfold xor1
  have : (c - 97) ^^^ (d - 97) < 2 ^ 3 := Nat.xor_lt_two_pow (by omega) (by omega)
  omega
theorem xor1_int {c d : Nat} (hc1 : 97 ≤ c) (hc : c ≤ 104) (hd1 : 97 ≤ d) (hd : d ≤ 104) : bits .xor .i64 ((c : Int) - 97) ((d : Int) - 97) = ((xor1 c d : Nat) : Int) - 97 := by
  have e1 : (c : Int) - 97 = ((c - 97 : Nat) : Int) := by omega
  have e2 : (d : Int) - 97 = ((d - 97 : Nat) : Int) := by omega
  rw [e1, e2, i64_xor_natT _ _ (by omega) (by omega)]
  unfold xor1
  omega
theorem xorL_lt {v w : List Nat} (h : ∀ (k c d : Nat), v[k]? = some c → w[k]? = some d → 97 ≤ c ∧ c ≤ 104 ∧ 97 ≤ d ∧ d ≤ 104) : ∀ x ∈ xorL v w, x < 256 := by
  intro x hx
  obtain ⟨k, hk, rfl⟩ := List.mem_iff_getElem.1 hx
  have hl : k < v.length ∧ k < w.length := by simp [xorL] at hk; omega
  obtain ⟨h1, h2, h3, h4⟩ := h k _ _ (List.getElem?_eq_getElem hl.1) (List.getElem?_eq_getElem hl.2)
  have := xor1_bd h1 h2 h3 h4
  simp only [xorL, List.getElem_zipWith]
  omega

theorem info_u8T : (Try.prog.info? 5).map (fun i => (i.zero, i.size, i.bytes)) = some (some (.int .u8 0), 1, 1) := by kernel_rfl
theorem make_bytesT (n : Nat) (hn : n ≤ 4194304) (w : World) : ∃ w1, (Instr.makeSlice 22 (.int .i64 (n : Int)) (.int .i64 (n : Int))).run Try.prog w = .ok (.slice (some ⟨w.heap.size, 0, none⟩) n n) w1 ∧
    Buf w1 w.heap.size 5 (bcells (List.replicate n 0)) ∧ Below w.heap.size w w1 ∧ w.heap.size < w1.heap.size := by
  obtain ⟨i0, hi, hz0, hz1, hz2⟩ := info_parts info_u8T
  have hr := run_make (P := Try.prog) w 22 5 i0 _ Try.underlying22 hi hz0 .i64 .i64 n n (by omega) (by omega) (by rw [hz2]; omega) (by omega)
  rw [hz1] at hr
  simp only [Int.toNat_natCast, Nat.mul_one] at hr
  refine ⟨_, hr, Buf.new w _ _ _ (fun j u hu => ?_) 0 0 (.inl (Nat.le_refl _)), (Below.refl _ _).alloc (Nat.le_refl _) _, by simp⟩
  refine madeOne_at _ _ _ _ ?_
  simpa [bcells] using hu

set_option maxHeartbeats 400000 in
theorem impl_TapeValid (s : ByteArray) (w : World) (hs : s.size ≤ maxLen) :
    Calls Try.prog 17 #[.string s] w fun e w' => e = .returned (.bool (tv (nb s))) ∧ w = w' := by
  unfold maxLen at hs
  by_cases hlen : 200 < s.size
  · go_enter Try.func17, Try.ntmps17
    go_wp2
    go_ret
    exact ⟨ret_bool (by simp [tv, nb_length]; omega), rfl⟩
  · go_enter Try.func17, Try.ntmps17
    go_wp2
    go_loop [9] (fun i => ∃ k : Nat, k ≤ s.size ∧ i = .int .i64 k ∧ upto isT (nb s) k) (fun i => s.size - (intOf i).toNat)
    case atStart => exact ⟨0, Nat.zero_le _, rfl, upto_zero _ _⟩
    case round =>
      obtain ⟨k, hk, rfl, hu⟩ := hrel
      by_cases hlt : k < s.size
      · have Hg := Lib.hid (nb_get? s k hlt)
        cases hl : isT s[k].toNat
        · have Hl := Lib.hid hl
          rcases isT_no hl with h1 | h1
          all_goals
            clear hl
            go_wp2
            go_ret
            exact ⟨ret_bool (by simp only [tv]; rw [not_all Hg.out Hl.out]; simp), rfl⟩
        · have Hl := Lib.hid hl
          obtain ⟨h1, h2⟩ := isT_bd hl
          clear hl
          go_wp2
          go_round
          case rel => exact ⟨k + 1, by omega, by go_num, upto_succ hu Hg.out Hl.out⟩
          case measure => simp [intOf]; omega
      · go_wp2
        go_ret
        exact ⟨ret_bool (by
          obtain rfl : k = s.size := by omega
          rw [← nb_length] at hu
          simp [tv, nb_length, upto_all hu]; omega), rfl⟩
set_option maxHeartbeats 400000 in
theorem spec_TapeValid (s : ByteArray) (w : World) (hs : s.size ≤ maxLen) :
    Calls Try.prog 40 #[.string s] w fun e w' => e = .returned (.bool (tv (nb s))) ∧ w = w' := by
  cases hv : wv (nb s)
  · have ht := tv_notwv hv
    go_enter Try.func40, Try.ntmps40
    go_wp2_with fail
    refine (spec_WordValid _ _ hs).mono ?_
    rintro e w' ⟨rfl, rfl⟩
    go_wp2
    go_ret
    exact ⟨ret_bool ht.symm, rfl⟩
  · have hlen := wv_len hv
    rw [nb_length] at hlen
    have Hv := Lib.hid hv
    go_enter Try.func40, Try.ntmps40
    go_wp2_with fail
    refine (spec_WordValid _ _ hs).mono ?_
    rintro e w' ⟨rfl, rfl⟩
    go_wp2
    go_loop [3] (fun i => ∃ k : Nat, k ≤ s.size ∧ i = .int .i64 k ∧ upto isT (nb s) k) (fun i => s.size - (intOf i).toNat)
    case atStart => exact ⟨0, Nat.zero_le _, rfl, upto_zero _ _⟩
    case round =>
      obtain ⟨k, hk, rfl, hu⟩ := hrel
      by_cases hlt : k < s.size
      · obtain ⟨c, hc⟩ : ∃ c, (nb s)[k]? = some c := ⟨_, nb_get? s k hlt⟩
        obtain ⟨hc1, hc2⟩ := wv_at Hv.out hc
        have Hg := Lib.hid hc
        clear hc
        cases hl : isT c
        · have Hl := Lib.hid hl
          have h1 : 105 ≤ c := by rcases isT_no hl with h1 | h1 <;> omega
          clear hl
          go_wp2_with (go_at_call 42; refine (spec_l1Digit _ _ k c _ rfl Hg.out).mono ?_; rintro e w' ⟨rfl, rfl⟩)
          go_ret
          exact ⟨ret_bool (by simp only [tv]; rw [not_all Hg.out Hl.out]; simp), rfl⟩
        · have Hl := Lib.hid hl
          obtain ⟨h1, h2⟩ := isT_bd hl
          clear hl
          go_wp2_with (go_at_call 42; refine (spec_l1Digit _ _ k c _ rfl Hg.out).mono ?_; rintro e w' ⟨rfl, rfl⟩)
          go_round
          case rel => exact ⟨k + 1, by omega, by go_num, upto_succ hu Hg.out Hl.out⟩
          case measure => simp [intOf]; omega
      · go_wp2
        go_ret
        exact ⟨ret_bool (by
          obtain rfl : k = s.size := by omega
          rw [← nb_length] at hu
          simp [tv, nb_length, upto_all hu]; omega), rfl⟩
set_option maxHeartbeats 1000000 in
theorem impl_xorBytes (a b : ByteArray) (w : World) (h : ∀ (k c d : Nat), (nb a)[k]? = some c → (nb b)[k]? = some d → 97 ≤ c ∧ c ≤ 104 ∧ 97 ≤ d ∧ d ≤ 104) (hl : a.size = b.size) (la : a.size ≤ 200) :
    Calls Try.prog 28 #[.string a, .string b] w (RetS w (xorL (nb a) (nb b))) := by
  have HL : Hid ((xorL (nb a) (nb b)).length = (List.replicate a.size 0).length) := by show _ = _; simp [xorL, nb_length]; omega
  have H := Lib.hid h
  obtain ⟨w1, hmk, hbuf, hbel, hsz⟩ := make_bytesT a.size (by omega) w
  have Hsz := Lib.hid hl
  clear h hl
  go_enter Try.func28, Try.ntmps28
  go_wp2_with fail
  go_loopw [12] (fun i wr => ∃ k : Nat, k ≤ a.size ∧ i = .int .i64 k ∧ Buf wr w.heap.size 5 (bcells (mix (xorL (nb a) (nb b)) (List.replicate a.size 0) k)) ∧ Below w.heap.size w wr) (fun i _ => a.size - (intOf i).toNat)
  case atStart => exact ⟨0, Nat.zero_le _, rfl, by rw [mix_zero]; exact hbuf, hbel⟩
  case round =>
    obtain ⟨k, hk, rfl, hbk, hbe⟩ := hrel
    clear hmk hbuf hbel hsz
    by_cases hlt : k < a.size
    · have hkb : k < b.size := by have := Hsz.out; omega
      obtain ⟨c, hc⟩ : ∃ c, (nb a)[k]? = some c := ⟨_, nb_get? a k hlt⟩
      obtain ⟨d, hd⟩ : ∃ d, (nb b)[k]? = some d := ⟨_, nb_get? b k hkb⟩
      obtain ⟨hc1, hc2, hd1, hd2⟩ := H.out k c d hc hd
      have hck : a[k].toNat = c := by have := nb_get? a k hlt; rw [hc] at this; injection this with this; exact this.symm
      have hdk : b[k].toNat = d := by have := nb_get? b k hkb; rw [hd] at this; injection this with this; exact this.symm
      have hfree := hbk.free (j := k) (by rw [bcells_len, mix_len _ _ _ HL.out]; simp; exact hlt)
      obtain ⟨u, hcell⟩ : ∃ u, wr.cell? ⟨w.heap.size, k, none⟩ = some u := by
        obtain ⟨u, hu⟩ := get_some (bcells (mix (xorL (nb a) (nb b)) (List.replicate a.size 0) k)) k (by rw [bcells_len, mix_len _ _ _ HL.out]; simp; exact hlt)
        exact ⟨u, hbk.cell hu⟩
      have Hn := Lib.hid (zipWith_at (f := xor1) hc hd)
      have Hc := Lib.hid hck
      have Hd := Lib.hid hdk
      clear hc hd
      go_wp2_with fail
      have hx := xor1_int hc1 hc2 hd1 hd2
      obtain ⟨hx1, hx2⟩ := xor1_bd hc1 hc2 hd1 hd2
      refine wp_region_still_tail 13 (by kernel_rfl) (by kernel_rfl) ?_
      simp only [List.take_succ_cons, List.take_zero, List.drop_succ_cons, List.drop_zero]
      repeat (first | still_step | still_call (quietly (impl_number _ _ (by omega) (by omega))) | still_call (quietly (impl_letter _ _ (by omega) (by omega))))
      refine wpStill_nil ?_
      clear hx
      change wpList _ _ _ _ _ wr.drew
      go_wp2
      go_roundw
      case rel => exact ⟨k + 1, by omega, by go_num, (hbk.put HL.out Hn.out (by omega)).drew, (hbe.setCell (Nat.le_refl _) _).drew⟩
      case measure => simp [intOf]; omega
    · have hkn : k = a.size := by omega
      rw [hkn, mix_end HL.out (by rw [HL.out]; simp)] at hbk
      obtain ⟨r, hr, hrun⟩ := of_bytes wr w.heap.size a.size a.size (xorL (nb a) (nb b)) hbk (by rw [HL.out]; simp) (xorL_lt H.out)
      have Hr := Lib.hid hr
      clear hr
      go_wp2
      go_ret
      exact ⟨r, rfl, Hr.out, hbe⟩
end Go.Proofs.Ytibjiadgmlpceaa
