/- Three wheels together: the letters, and the tests on a machine. No condition. -/
import Derived.Test.YtibjiadgmlpceaaWheel
import Derived.BigQuiet
import Derived.Deep.QuietTactic
set_option linter.unusedVariables false
namespace Go.Proofs.Ytibjiadgmlpceaa
open Go.RowKit

def let3 (x y z : ByteArray) (i : Nat) : Nat := 97 + (bitAt x i + 2 * bitAt y i + 4 * bitAt z i)
def part3 (x y z : ByteArray) (i : Nat) : Nat → Nat
  | 0 => 0
  | 1 => bitAt x i
  | 2 => bitAt x i + 2 * bitAt y i
  | _ => bitAt x i + 2 * bitAt y i + 4 * bitAt z i
theorem three_at {x y z s : ByteArray} {k : Nat} (h : [x, y, z][k]? = some s) : k < 3 := by
  have := (List.getElem?_eq_some_iff.1 h).1
  simpa using this
theorem i64_or_natT (a b : Nat) (ha : a < 9223372036854775808) (hb : b < 9223372036854775808) : bits .or .i64 (a : Int) (b : Int) = ((a ||| b : Nat) : Int) := by
  have hx : a ||| b < 2 ^ 63 := Nat.or_lt_two_pow (by omega) (by omega)
  show IntKind.i64.wrap ((BitVec.ofInt 64 (a : Int) ||| BitVec.ofInt 64 (b : Int)).toNat : Int) = _
  rw [BitVec.toNat_or, ofInt_i64T a ha, ofInt_i64T b hb, IntKind.wrap_i64]
  omega
theorem or_all : ∀ (a b c : Fin 2), 0 ||| a.val = a.val ∧ a.val ||| 2 * b.val = a.val + 2 * b.val ∧ (a.val + 2 * b.val) ||| 4 * c.val = a.val + 2 * b.val + 4 * c.val := by decide
theorem or_one {p q : Nat} {e : Int} (he : e = (q : Int)) (hp : p ≤ 7) (hq : q ≤ 7) : bits .or .i64 (p : Int) (wrap64 e) = ((p ||| q : Nat) : Int) := by
  subst he
  have : wrap64 (q : Int) = (q : Int) := by unfold wrap64; omega
  rw [this, i64_or_natT _ _ (by omega) (by omega)]
theorem or_step {x y z s : ByteArray} {i j : Nat} (hs : [x, y, z][j]? = some s) (hx : bitAt x i ≤ 1) (hy : bitAt y i ≤ 1) (hz : bitAt z i ≤ 1) :
    bits .or .i64 (part3 x y z i j : Int) (wrap64 ((48 + (bitAt s i : Int) - 48) * 2 ^ j)) = (part3 x y z i (j + 1) : Int) := by
  have hj := three_at hs
  obtain ⟨o1, o2, o3⟩ := or_all ⟨bitAt x i, by omega⟩ ⟨bitAt y i, by omega⟩ ⟨bitAt z i, by omega⟩
  simp only at o1 o2 o3
  have hj' : j = 0 ∨ j = 1 ∨ j = 2 := by omega
  have hq : ∃ q : Nat, (48 + (bitAt s i : Int) - 48) * 2 ^ j = (q : Int) ∧ q ≤ 7 ∧ part3 x y z i j ≤ 7 ∧ part3 x y z i j ||| q = part3 x y z i (j + 1) := by
    rcases hj' with rfl | rfl | rfl
    · obtain rfl : x = s := by simpa using hs
      exact ⟨bitAt x i, by omega, by omega, by show 0 ≤ 7; omega, o1⟩
    · obtain rfl : y = s := by simpa using hs
      exact ⟨2 * bitAt y i, by omega, by omega, by show bitAt x i ≤ 7; omega, o2⟩
    · obtain rfl : z = s := by simpa using hs
      exact ⟨4 * bitAt z i, by omega, by omega, by show bitAt x i + 2 * bitAt y i ≤ 7; omega, o3⟩
  obtain ⟨q, h1, h2, h3, h4⟩ := hq
  rw [or_one h1 h3 h2, h4]
set_option maxHeartbeats 1000000 in
theorem impl_bitsAt (A : Option Addr) (c : Nat) (x y z : ByteArray) (i : Nat) (w : World) (h : Strs w A [x, y, z]) (hx : wheel (nb x) = true) (hy : wheel (nb y) = true) (hz : wheel (nb z) = true) (hi : i ≤ 100000) :
    Calls Try.prog 27 #[.slice A 3 c, .int .i64 (i : Int)] w fun e w' => e = .returned (.int .u8 (let3 x y z i : Int)) ∧ w = w' := by
  have hbx := (bitAt_spec hx i).2.2
  have hby := (bitAt_spec hy i).2.2
  have hbz := (bitAt_spec hz i).2.2
  have H := Lib.hid h
  have HX := Lib.hid hx
  have HY := Lib.hid hy
  have HZ := Lib.hid hz
  clear h hx hy hz
  go_enter Try.func27, Try.ntmps27
  go_wp2
  go_loop [5, 10] (fun n k => ∃ (j : Nat), j ≤ 3 ∧ k = .int .i64 j ∧ n = .int .i64 (part3 x y z i j : Int)) (fun _ k => 3 - (intOf k).toNat)
  case atStart => exact ⟨0, by omega, rfl, rfl⟩
  case round =>
    obtain ⟨j, hj, rfl, rfl⟩ := hrel
    by_cases hlt : j < 3
    · obtain ⟨s, hs⟩ := sget [x, y, z] j hlt
      have hw : wheel (nb s) = true := by
        rcases List.mem_of_getElem? hs with _ | ⟨_, hm⟩
        · exact HX.out
        · rcases hm with _ | ⟨_, hm⟩
          · exact HY.out
          · rcases hm with _ | ⟨_, hm⟩
            · exact HZ.out
            · cases hm
      obtain ⟨b, off, rfl, hbl, hc⟩ := H.out.at_ hs
      obtain ⟨hk, hv, h1⟩ := bitAt_spec hw i
      have hl := wheel_len hw
      rw [nb_length] at hl
      obtain ⟨hl1, hl2⟩ := hl
      have hm : (i : Int).tmod (s.size : Int) = ((i % s.size : Nat) : Int) := by rw [Int.tmod_eq_emod_of_nonneg (by omega)]; rfl
      have hb1 : (48 : Int) ≤ (s[i % s.size].toNat : Int) := by omega
      have hb2 : (s[i % s.size].toNat : Int) ≤ 49 := by omega
      generalize i % s.size = m at *
      have Hor := Lib.hid (or_step hs hbx hby hbz)
      clear hs hw
      go_wp2
      go_round
      case rel => exact ⟨j + 1, by omega, by go_num, by rw [Hor.out]⟩
      case measure => simp [intOf]; omega
    · obtain rfl : j = 3 := by omega
      have hq : part3 x y z i 3 = bitAt x i + 2 * bitAt y i + 4 * bitAt z i := rfl
      have hp : part3 x y z i 3 ≤ 7 := by omega
      have Hq := Lib.hid hq
      clear hq
      go_wp2_with fail
      refine (impl_letter _ _ (by omega) (by omega)).mono ?_
      rintro e w' ⟨rfl, rfl⟩
      go_wp2
      go_ret
      exact ⟨ret_int (by rw [Hq.out, let3]; omega), rfl⟩
set_option maxHeartbeats 2000000 in
theorem spec_l16Letter (A : Option Addr) (c : Nat) (x y z : ByteArray) (i : Nat) (w : World) (h : Strs w A [x, y, z]) (hx : wheel (nb x) = true) (hy : wheel (nb y) = true) (hz : wheel (nb z) = true) (hi : i ≤ 100000) :
    Calls Try.prog 38 #[.slice A 3 c, .int .i64 (i : Int)] w (RetS w [let3 x y z i]) := by
  have hbx := (bitAt_spec hx i).2.2
  have hby := (bitAt_spec hy i).2.2
  have hbz := (bitAt_spec hz i).2.2
  obtain ⟨b, off, rfl, hbl, hc0⟩ := h.at_ (k := 0) (z := x) rfl
  obtain ⟨b1, off1, e1, hbl1, hc1⟩ := h.at_ (k := 1) (z := y) rfl
  obtain ⟨b2, off2, e2, hbl2, hc2⟩ := h.at_ (k := 2) (z := z) rfl
  injection e1 with e1
  injection e1 with e1 e1'
  injection e2 with e2
  injection e2 with e2 e2'
  subst e1 e1' e2 e2'
  rw [Nat.add_zero] at hc0
  have HX := Lib.hid hx
  have HY := Lib.hid hy
  have HZ := Lib.hid hz
  clear h hx hy hz
  go_enter Try.func38, Try.ntmps38
  go_wp2_with fail
  have k1 : IntKind.i64.wrap (2 * (bitAt y i : Int)) = 2 * (bitAt y i : Int) := IntWalk.i64_in _ (by omega)
  have k2 : IntKind.i64.wrap ((bitAt x i : Int) + 2 * (bitAt y i : Int)) = (bitAt x i : Int) + 2 * (bitAt y i : Int) := IntWalk.i64_in _ (by omega)
  have k3 : IntKind.i64.wrap (4 * (bitAt z i : Int)) = 4 * (bitAt z i : Int) := IntWalk.i64_in _ (by omega)
  have k4 : IntKind.i64.wrap ((bitAt x i : Int) + 2 * (bitAt y i : Int) + 4 * (bitAt z i : Int)) = (bitAt x i : Int) + 2 * (bitAt y i : Int) + 4 * (bitAt z i : Int) := IntWalk.i64_in _ (by omega)
  refine wp_region_still_tail 19 (by kernel_rfl) (by kernel_rfl) ?_
  simp only [List.take_succ_cons, List.take_zero, List.drop_succ_cons, List.drop_zero]
  repeat (first | still_step | still_call (quietly (spec_l16Bit _ _ _ (by first | exact HX.out | exact HY.out | exact HZ.out) hi)))
  refine wpStill_nil ?_
  clear k1 k2 k3 k4
  change wpList _ _ _ _ _ w.drew
  go_wp2_with fail
  refine (spec_l1Letter _ _).mono ?_
  rintro e v1 ⟨r, rfl, hr, hb1⟩
  have Hr := Lib.hid hr
  clear hr
  go_wp2
  go_ret
  refine ⟨r, rfl, ?_, ⟨hb1.os, hb1.tape, hb1.output, hb1.size, hb1.block⟩⟩
  rw [Hr.out, let3]
  congr 1
  omega
end Go.Proofs.Ytibjiadgmlpceaa
