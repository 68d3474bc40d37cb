/- The tests on a machine. No condition. -/
import Derived.Test.YtchjhngfkngljaaDoorTele
set_option linter.unusedVariables false
namespace Go.Proofs.YtchjhngfkngljaaDoor
open Go.RowKit

theorem belA (w : World) (o : Obj) : Below w.heap.size w (w.alloc o) := (Below.refl _ _).alloc (Nat.le_refl _) _
def wheels3 (ss : List ByteArray) : Bool := decide (ss.length = 3) && ss.all (fun s => wheel (nb s))
theorem wheels3_yes {ss : List ByteArray} (h : wheels3 ss = true) : ∃ x y z, ss = [x, y, z] ∧ wheel (nb x) = true ∧ wheel (nb y) = true ∧ wheel (nb z) = true := by
  simp only [wheels3, Bool.and_eq_true, decide_eq_true_eq, List.all_eq_true] at h
  obtain ⟨hl, ha⟩ := h
  match ss, hl with
  | [x, y, z], _ => exact ⟨x, y, z, rfl, ha x (by simp), ha y (by simp), ha z (by simp)⟩
theorem wheels3_len {ss : List ByteArray} (h : ss.length ≠ 3) : wheels3 ss = false := by simp [wheels3, h]
theorem wheels3_no {ss : List ByteArray} {k : Nat} {s : ByteArray} (hk : ss[k]? = some s) (h : wheel (nb s) = false) : wheels3 ss = false := by
  cases he : wheels3 ss
  · rfl
  · simp only [wheels3, Bool.and_eq_true, decide_eq_true_eq, List.all_eq_true] at he
    rw [he.2 s (List.mem_of_getElem? hk)] at h
    cases h
def swh (ss : List ByteArray) (k : Nat) : Prop := ∀ (j : Nat) (s : ByteArray), j < k → ss[j]? = some s → wheel (nb s) = true
theorem swh_zero (ss : List ByteArray) : swh ss 0 := fun j s h => absurd h (by omega)
theorem swh_succ {ss : List ByteArray} {k : Nat} {s : ByteArray} (h : swh ss k) (hk : ss[k]? = some s) (hw : wheel (nb s) = true) : swh ss (k + 1) := by
  intro j t hj ht
  by_cases e : j = k
  · subst e; rw [hk] at ht; injection ht with ht; rw [← ht]; exact hw
  · exact h j t (by omega) ht
theorem swh_all {ss : List ByteArray} (hl : ss.length = 3) (h : swh ss 3) : wheels3 ss = true := by
  simp only [wheels3, Bool.and_eq_true, decide_eq_true_eq, List.all_eq_true]
  refine ⟨hl, fun s hs => ?_⟩
  obtain ⟨k, hk, rfl⟩ := List.mem_iff_getElem.1 hs
  exact h k _ (by omega) (List.getElem?_eq_getElem hk)
/-- The machine is valid. -/
def tvld (chi psi : List ByteArray) (mo : ByteArray) : Bool := wheels3 chi && wheels3 psi && wheel (nb mo)
def tfit (chi psi : List ByteArray) (mo : ByteArray) (n : Int) : Bool := tvld chi psi mo && decide (0 ≤ n ∧ n ≤ 200)
def smallS (ss : List ByteArray) : Prop := ∀ s ∈ ss, s.size ≤ maxLen
theorem smallS.at_ {ss : List ByteArray} (h : smallS ss) {k : Nat} {s : ByteArray} (hk : ss[k]? = some s) : s.size ≤ maxLen := h s (List.mem_of_getElem? hk)
/-- The machine of a value: two rows of strings and a string. -/
structure Mach (w : World) (A : Option Addr) (n : Nat) (B : Option Addr) (m : Nat) (chi psi : List ByteArray) (mo : ByteArray) : Prop where
  sc : Strs w A chi
  sp : Strs w B psi
  lc : chi.length = n
  lp : psi.length = m
  bn : n ≤ 9223372036854775807
  bm : m ≤ 9223372036854775807
  mc : smallS chi
  mp : smallS psi
  mm : mo.size ≤ maxLen
theorem Mach.next {w w' : World} {A B : Option Addr} {n m : Nat} {chi psi : List ByteArray} {mo : ByteArray} (h : Mach w A n B m chi psi mo) (hb : Below w.heap.size w w') : Mach w' A n B m chi psi mo :=
  ⟨h.sc.next hb, h.sp.next hb, h.lc, h.lp, h.bn, h.bm, h.mc, h.mp, h.mm⟩
theorem le1 {a : Nat} (h : a ≤ 1) : a = 0 ∨ a = 1 := by omega
theorem ne3 {n : Nat} (h : n ≠ 3) : ((n : Int) != 3) = true := by rw [bne_iff_ne]; omega
theorem eq3 {n : Nat} (h : n ≠ 3) : ((n : Int) == 3) = false := by rw [beq_eq_false_iff_ne]; omega

set_option maxHeartbeats 1000000 in
theorem impl_TeleValid (A B : Option Addr) (n c m d : Nat) (chi psi : List ByteArray) (mo : ByteArray) (w : World) (h : Mach w A n B m chi psi mo) :
    Calls Tryd.prog 8 #[.agg #[.slice A n c, .slice B m d, .string mo]] w fun e w' => e = .returned (.bool (tvld chi psi mo)) ∧ Below w.heap.size w w' := by
  have H := Lib.hid h
  have hbn := h.bn
  have hbm := h.bm
  have hmm := h.mm
  clear h
  by_cases h3 : n = 3
  · by_cases h4 : m = 3
    · subst h3 h4
      cases hmo : wheel (nb mo)
      · go_enter Tryd.func8, Tryd.ntmps8
        go_wp2_with fail
        refine (impl_wheelValid _ _ hmm).mono ?_
        rintro e w' ⟨rfl, rfl⟩
        go_wp2_with fail
        go_ret
        exact ⟨ret_bool (by rw [tvld, hmo, Bool.and_false]), belA _ _⟩
      · have Hmo := Lib.hid hmo
        have hM := H.out.next (belA w (.cells #[.slice A 3 c, .slice B 3 d, .string mo] 25))
        have HM := Lib.hid hM
        clear hM
        go_enter Tryd.func8, Tryd.ntmps8
        go_wp2_with fail
        refine (impl_wheelValid _ _ hmm).mono ?_
        rintro e w' ⟨rfl, rfl⟩
        go_wp2_with fail
        clear hmo
        go_loop [20] (fun i => ∃ k : Nat, k ≤ 3 ∧ i = .int .i64 k ∧ swh chi k ∧ swh psi k) (fun i => 3 - (intOf i).toNat)
        case atStart => exact ⟨0, by omega, rfl, swh_zero _, swh_zero _⟩
        case round =>
          obtain ⟨k, hk, rfl, hu1, hu2⟩ := hrel
          by_cases hlt : k < 3
          · obtain ⟨s, hs⟩ := sget chi k (by rw [HM.out.lc]; exact hlt)
            obtain ⟨t, ht⟩ := sget psi k (by rw [HM.out.lp]; exact hlt)
            obtain ⟨b, off, e1, hbl, hc⟩ := HM.out.sc.at_ hs
            obtain ⟨b2, off2, e2, hbl2, hc2⟩ := HM.out.sp.at_ ht
            subst e1 e2
            have hsm := HM.out.mc.at_ hs
            have htm := HM.out.mp.at_ ht
            have Hs := Lib.hid hs
            have Ht := Lib.hid ht
            clear hs ht
            cases hw1 : wheel (nb s)
            · go_wp2_with fail
              refine (impl_wheelValid _ _ hsm).mono ?_
              rintro e w' ⟨rfl, rfl⟩
              go_wp2_with fail
              go_ret
              exact ⟨ret_bool (by rw [tvld, wheels3_no Hs.out hw1]; rfl), belA _ _⟩
            · cases hw2 : wheel (nb t)
              · go_wp2_with fail
                refine (impl_wheelValid _ _ hsm).mono ?_
                rintro e w' ⟨rfl, rfl⟩
                go_wp2_with fail
                refine (impl_wheelValid _ _ htm).mono ?_
                rintro e w' ⟨rfl, rfl⟩
                go_wp2_with fail
                go_ret
                exact ⟨ret_bool (by rw [tvld, wheels3_no Ht.out hw2, Bool.and_false]; rfl), belA _ _⟩
              · have Hw1 := Lib.hid hw1
                have Hw2 := Lib.hid hw2
                go_wp2_with fail
                refine (impl_wheelValid _ _ hsm).mono ?_
                rintro e w' ⟨rfl, rfl⟩
                go_wp2_with fail
                refine (impl_wheelValid _ _ htm).mono ?_
                rintro e w' ⟨rfl, rfl⟩
                go_wp2_with fail
                go_round
                case rel => exact ⟨k + 1, by omega, by go_num, swh_succ hu1 Hs.out Hw1.out, swh_succ hu2 Ht.out Hw2.out⟩
                case measure => simp [intOf]; omega
          · have hk3 : k = 3 := by omega
            go_wp2_with fail
            go_ret
            exact ⟨ret_bool (by rw [tvld, swh_all H.out.lc (hk3 ▸ hu1), swh_all H.out.lp (hk3 ▸ hu2), Hmo.out]; rfl), belA _ _⟩
    · have b4 := ne3 h4
      have hp := wheels3_len (ss := psi) (by rw [H.out.lp]; exact h4)
      subst h3
      clear h4
      go_enter Tryd.func8, Tryd.ntmps8
      go_wp2_with fail
      go_ret
      exact ⟨ret_bool (by rw [tvld, hp, Bool.and_false]; rfl), belA _ _⟩
  · have b3 := ne3 h3
    have hp := wheels3_len (ss := chi) (by rw [H.out.lc]; exact h3)
    clear h3
    go_enter Tryd.func8, Tryd.ntmps8
    go_wp2_with fail
    go_ret
    exact ⟨ret_bool (by rw [tvld, hp]; rfl), belA _ _⟩
set_option maxHeartbeats 1000000 in
theorem spec_l16Wheels (A : Option Addr) (n c : Nat) (ss : List ByteArray) (w : World) (h : Strs w A ss) (hn : ss.length = n) (hb : n ≤ 9223372036854775807) (hsm : smallS ss) :
    Calls Tryd.prog 33 #[.slice A n c] w fun e w' => e = .returned (.bool (wheels3 ss)) ∧ w = w' := by
  have Hn := Lib.hid hn
  by_cases h3 : n = 3
  · subst h3
    match ss, hn with
    | [x, y, z], _ =>
      obtain ⟨b, off, rfl, hbl, hc0⟩ := h.at_ (k := 0) (z := x) rfl
      obtain ⟨b1, off1, e1, hbl1, hc1⟩ := h.at_ (k := 1) (z := y) rfl
      obtain ⟨b2, off2, e2, hbl2, hc2⟩ := h.at_ (k := 2) (z := z) rfl
      injection e1 with e1
      injection e1 with e1 e1'
      injection e2 with e2
      injection e2 with e2 e2'
      subst e1 e1' e2 e2'
      rw [Nat.add_zero] at hc0
      have mx := hsm x (by simp)
      have my := hsm y (by simp)
      have mz := hsm z (by simp)
      clear h Hn hsm
      cases hx : wheel (nb x)
      · go_enter Tryd.func33, Tryd.ntmps33
        go_wp2_with fail
        refine (spec_l15Bits _ _ mx).mono ?_
        rintro e w' ⟨rfl, rfl⟩
        go_wp2_with fail
        go_ret
        exact ⟨ret_bool (by simp [wheels3, hx]), rfl⟩
      · cases hy : wheel (nb y)
        · go_enter Tryd.func33, Tryd.ntmps33
          go_wp2_with fail
          refine (spec_l15Bits _ _ mx).mono ?_
          rintro e w' ⟨rfl, rfl⟩
          go_wp2_with fail
          refine (spec_l15Bits _ _ my).mono ?_
          rintro e w' ⟨rfl, rfl⟩
          go_wp2_with fail
          go_ret
          exact ⟨ret_bool (by simp [wheels3, hx, hy]), rfl⟩
        · go_enter Tryd.func33, Tryd.ntmps33
          go_wp2_with fail
          refine (spec_l15Bits _ _ mx).mono ?_
          rintro e w' ⟨rfl, rfl⟩
          go_wp2_with fail
          refine (spec_l15Bits _ _ my).mono ?_
          rintro e w' ⟨rfl, rfl⟩
          go_wp2_with fail
          refine (spec_l15Bits _ _ mz).mono ?_
          rintro e w' ⟨rfl, rfl⟩
          go_wp2_with fail
          go_ret
          exact ⟨ret_bool (by simp [wheels3, hx, hy]), rfl⟩
  · have b3 := eq3 h3
    have hp := wheels3_len (ss := ss) (by rw [hn]; exact h3)
    clear h3 hn
    go_enter Tryd.func33, Tryd.ntmps33
    go_wp2_with fail
    go_ret
    exact ⟨ret_bool hp.symm, rfl⟩
set_option maxHeartbeats 1000000 in
theorem spec_TeleValid (A B : Option Addr) (n c m d : Nat) (chi psi : List ByteArray) (mo : ByteArray) (w : World) (h : Mach w A n B m chi psi mo) :
    Calls Tryd.prog 19 #[.agg #[.slice A n c, .slice B m d, .string mo]] w fun e w' => e = .returned (.bool (tvld chi psi mo)) ∧ Below w.heap.size w w' := by
  have H := Lib.hid (h.next (belA w (.cells #[.slice A n c, .slice B m d, .string mo] 25)))
  have hbn := h.bn
  have hbm := h.bm
  have hmm := h.mm
  clear h
  cases hc : wheels3 chi
  · go_enter Tryd.func19, Tryd.ntmps19
    go_wp2_with fail
    refine (spec_l16Wheels _ _ _ _ _ H.out.sc H.out.lc hbn H.out.mc).mono ?_
    rintro e v1 ⟨rfl, rfl⟩
    go_wp2_with fail
    go_ret
    exact ⟨ret_bool (by rw [tvld, hc]; rfl), belA _ _⟩
  · cases hp : wheels3 psi
    · go_enter Tryd.func19, Tryd.ntmps19
      go_wp2_with fail
      refine (spec_l16Wheels _ _ _ _ _ H.out.sc H.out.lc hbn H.out.mc).mono ?_
      rintro e v1 ⟨rfl, rfl⟩
      go_wp2_with fail
      refine (spec_l16Wheels _ _ _ _ _ H.out.sp H.out.lp hbm H.out.mp).mono ?_
      rintro e v1 ⟨rfl, rfl⟩
      go_wp2_with fail
      go_ret
      exact ⟨ret_bool (by rw [tvld, hc, hp]; rfl), belA _ _⟩
    · go_enter Tryd.func19, Tryd.ntmps19
      go_wp2_with fail
      refine (spec_l16Wheels _ _ _ _ _ H.out.sc H.out.lc hbn H.out.mc).mono ?_
      rintro e v1 ⟨rfl, rfl⟩
      go_wp2_with fail
      refine (spec_l16Wheels _ _ _ _ _ H.out.sp H.out.lp hbm H.out.mp).mono ?_
      rintro e v1 ⟨rfl, rfl⟩
      go_wp2_with fail
      refine (spec_l15Bits _ _ hmm).mono ?_
      rintro e v1 ⟨rfl, rfl⟩
      go_wp2_with fail
      go_ret
      exact ⟨ret_bool (by rw [tvld, hc, hp]; rfl), belA _ _⟩
end Go.Proofs.YtchjhngfkngljaaDoor
