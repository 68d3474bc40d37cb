/- The source of draws: a pick returns some number in its range and changes its own block alone. No condition. -/
import Derived.Test.YtchjhngfkngljaaDoorConv
import Derived.BigQuiet
import Derived.Deep.QuietTactic
import Derived.Laws.BitsAllLaws
import Derived.Laws.BitsLemmas
set_option linter.unusedVariables false
namespace Go.Proofs.YtchjhngfkngljaaDoor
open Go.RowKit

theorem ofInt_i64 (a : Nat) (ha : a < 9223372036854775808) : (BitVec.ofInt 64 (a : Int)).toNat = a := by
  rw [BitVec.ofInt_natCast, BitVec.toNat_ofNat]; exact Nat.mod_eq_of_lt (by omega)
theorem i64_xor_nat (a b : Nat) (ha : a < 9223372036854775808) (hb : b < 9223372036854775808) : bits .xor .i64 (a : Int) (b : Int) = ((a ^^^ b : Nat) : Int) := by
  have hx : a ^^^ b < 2 ^ 63 := Nat.xor_lt_two_pow (by omega) (by omega)
  show IntKind.i64.wrap ((BitVec.ofInt 64 (a : Int) ^^^ BitVec.ofInt 64 (b : Int)).toNat : Int) = _
  rw [BitVec.toNat_xor, ofInt_i64 a ha, ofInt_i64 b hb, IntKind.wrap_i64]
  omega
theorem xor_bd (a b : Int) (h1 : 0 ≤ a) (h2 : a ≤ 1000000000000) (h3 : 0 ≤ b) (h4 : b ≤ 1000000000000) : 0 ≤ bits .xor .i64 a b ∧ bits .xor .i64 a b ≤ 2000000000000 := by
  obtain ⟨a, rfl⟩ := Int.eq_ofNat_of_zero_le h1
  obtain ⟨b, rfl⟩ := Int.eq_ofNat_of_zero_le h3
  rw [i64_xor_nat a b (by omega) (by omega)]
  have : a ^^^ b < 2 ^ 40 := Nat.xor_lt_two_pow (by omega) (by omega)
  omega

/-- Every cell of a slice of bytes holds a byte, and lies in another block than g. -/
def BRow (w : World) (g : Nat) (A : Option Addr) (n : Nat) : Prop :=
  n = 0 ∨ ∃ b off, A = some ⟨b, off, none⟩ ∧ b < g ∧ ∀ j, j < n → ∃ z : Int, w.cell? ⟨b, off + j, none⟩ = some (.int .u8 z) ∧ 0 ≤ z ∧ z ≤ 255
/-- Block g is a source of draws that has been asked p times. -/
def Rd (w : World) (g p : Nat) : Prop :=
  ∃ A n c, w.heap[g]? = some (.cells #[.slice A n c, .int .i64 (p : Int)] 47 (0, 0)) ∧ n ≤ 2000 ∧ BRow w g A n

theorem BRow.grown {w w' : World} {g n : Nat} {A : Option Addr} (h : BRow w g A n) (hg : w.grownBy w' (some g)) : BRow w' g A n := by
  rcases h with h | ⟨b, off, hA, hb, hc⟩
  · exact .inl h
  · refine .inr ⟨b, off, hA, hb, fun j hj => ?_⟩
    obtain ⟨z, hz, h0, h1⟩ := hc j hj
    exact ⟨z, hg.cell hz (by simp; omega), h0, h1⟩
theorem Rd.lt {w : World} {g p : Nat} (h : Rd w g p) : g < w.heap.size := by
  obtain ⟨A, n, c, h, _⟩ := h
  rcases Nat.lt_or_ge g w.heap.size with hlt | hge
  · exact hlt
  · rw [Array.getElem?_eq_none hge] at h; cases h
/-- Another call that makes memory leaves the source alone. -/
theorem Rd.next {w w' : World} {g p : Nat} (h : Rd w g p) (hb : Below w.heap.size w w') : Rd w' g p := by
  have hlt := h.lt
  obtain ⟨A, n, c, h, hn, hr⟩ := h
  refine ⟨A, n, c, (hb.block g hlt).trans h, hn, ?_⟩
  rcases hr with hr | ⟨b, off, hA, hbg, hc⟩
  · exact .inl hr
  · refine .inr ⟨b, off, hA, hbg, fun j hj => ?_⟩
    obtain ⟨z, hz, h0, h1⟩ := hc j hj
    exact ⟨z, by rw [hb.cell (p := ⟨b, off + j, none⟩) (block_lt_of_cell hz)]; exact hz, h0, h1⟩
theorem Rd.below {B : Nat} {w w' : World} {g p : Nat} (h : Rd w g p) (hb : Below B w w') (hB : g < B) : Rd w' g p := by
  obtain ⟨A, n, c, h, hn, hr⟩ := h
  refine ⟨A, n, c, (hb.block g hB).trans h, hn, ?_⟩
  rcases hr with hr | ⟨b, off, hA, hbg, hc⟩
  · exact .inl hr
  · refine .inr ⟨b, off, hA, hbg, fun j hj => ?_⟩
    obtain ⟨z, hz, h0, h1⟩ := hc j hj
    exact ⟨z, by rw [hb.cell (p := ⟨b, off + j, none⟩) (Nat.lt_trans hbg hB)]; exact hz, h0, h1⟩
theorem gbelow {w wr w1 : World} {row : Option Nat} (h : w.grownBy wr row) (hb : Below w.heap.size wr w1) : w.grownBy w1 row :=
  ⟨hb.os.trans h.os, hb.tape.trans h.tape, hb.output.trans h.output, Nat.le_trans h.size hb.size, fun i hi hne => (hb.block i hi).trans (h.block i hi hne)⟩
theorem gthen {w w1 w2 : World} {row : Option Nat} (h : w.grownBy w1 row) (k : w1.grownBy w2 row) : w.grownBy w2 row :=
  ⟨k.os.trans h.os, k.tape.trans h.tape, k.output.trans h.output, Nat.le_trans h.size k.size, fun i hi hne => (k.block i (Nat.lt_of_lt_of_le hi h.size) hne).trans (h.block i hi hne)⟩
theorem gbel {w w1 : World} (h : Below w.heap.size w w1) (row : Option Nat) : w.grownBy w1 row := ⟨h.os, h.tape, h.output, h.size, fun i hi _ => h.block i hi⟩

/-- A draw: some number below n (0 if there is none). -/
def Drawn (w : World) (g p : Nat) (n : Int) (e : Ending) (w' : World) : Prop :=
  ∃ m : Nat, e = .returned (.int .i64 (m : Int)) ∧ ((m : Int) < n ∨ m = 0) ∧ Rd w' g (p + 1) ∧ w.grownBy w' (some g)
theorem Rd.asked {w w' : World} {g p : Nat} {A : Option Addr} {n c : Nat} (hc : w.heap[g]? = some (.cells #[.slice A n c, .int .i64 (p : Int)] 47 (0, 0))) (hn : n ≤ 2000) (hr : BRow w g A n) {q : Nat}
    (hw : w' = (w.setCell ⟨g, 1, none⟩ (.int .i64 ((p : Int) + 1))).drewN q) : Rd w' g (p + 1) ∧ w.grownBy w' (some g) := by
  subst hw
  have hg : w.grownBy ((w.setCell ⟨g, 1, none⟩ (.int .i64 ((p : Int) + 1))).drewN q) (some g) :=
    ⟨rfl, rfl, rfl, by simp [World.setCell], fun i _ hne => Below.heap_setCell w _ _ i (fun h => hne (by rw [h]))⟩
  refine ⟨⟨A, n, c, ?_, hn, hr.grown hg⟩, hg⟩
  show (w.setCell ⟨g, 1, none⟩ (.int .i64 ((p : Int) + 1))).heap[g]? = _
  rw [heap_setCell_same w g 1 _ _ _ hc]
  rfl

theorem BRow.byte {w : World} {g n k : Nat} {A : Option Addr} (h : BRow w g A n) (hk : k < n) : ∃ b off z, A = some ⟨b, off, none⟩ ∧ b < g ∧ w.cell? ⟨b, off + k, none⟩ = some (.int .u8 z) ∧ 0 ≤ z ∧ z ≤ 255 := by
  rcases h with h | ⟨b, off, hA, hb, hc⟩
  · omega
  · obtain ⟨z, hz, h0, h1⟩ := hc k hk
    exact ⟨b, off, z, hA, hb, hz, h0, h1⟩
theorem BRow.two {w : World} {g n k j : Nat} {A : Option Addr} (h : BRow w g A n) (hk : k < n) (hj : j < n) : ∃ b off z y, A = some ⟨b, off, none⟩ ∧ b < g ∧ w.cell? ⟨b, off + k, none⟩ = some (.int .u8 z) ∧ 0 ≤ z ∧ z ≤ 255 ∧ w.cell? ⟨b, off + j, none⟩ = some (.int .u8 y) ∧ 0 ≤ y ∧ y ≤ 255 := by
  rcases h with h | ⟨b, off, hA, hb, hc⟩
  · omega
  · obtain ⟨z, hz, h0, h1⟩ := hc k hk
    obtain ⟨y, hy, h2, h3⟩ := hc j hj
    exact ⟨b, off, z, y, hA, hb, hz, h0, h1, hy, h2, h3⟩
theorem tmod_nat (a m : Nat) (hm : 0 < m) : ∃ i : Nat, ((a : Int)).tmod (m : Int) = (i : Int) ∧ i < m :=
  ⟨a % m, by rw [Int.tmod_eq_emod_of_nonneg (by omega)]; rfl, Nat.mod_lt _ hm⟩
theorem tmod_nat7 (a m : Nat) (hm : 0 < m) : ∃ i : Nat, ((a : Int) * 7 + 3).tmod (m : Int) = (i : Int) ∧ i < m := by
  obtain ⟨i, h, hi⟩ := tmod_nat (a * 7 + 3) m hm
  exact ⟨i, by rw [← h]; congr 1, hi⟩
theorem tdiv_nat (a m : Nat) (hm : 0 < m) : ∃ q : Nat, ((a : Int)).tdiv (m : Int) = (q : Int) ∧ q ≤ a :=
  ⟨a / m, by rw [Int.tdiv_eq_ediv_of_nonneg (by omega)]; rfl, Nat.div_le_self _ _⟩
theorem Drawn.zero {w w' : World} {g p : Nat} {n : Int} {x : Int} (hx : x = 0) (h : Rd w' g (p + 1) ∧ w.grownBy w' (some g)) : Drawn w g p n (.returned (.int .i64 x)) w' :=
  ⟨0, by rw [hx]; rfl, .inr rfl, h.1, h.2⟩
theorem Drawn.some_ {w w' : World} {g p : Nat} {n : Int} {x : Int} (h0 : 0 ≤ x) (h1 : x < n) (h : Rd w' g (p + 1) ∧ w.grownBy w' (some g)) : Drawn w g p n (.returned (.int .i64 x)) w' :=
  ⟨x.toNat, by rw [Int.toNat_of_nonneg h0], .inl (by omega), h.1, h.2⟩

set_option maxHeartbeats 1000000 in
theorem spec_pick_zero (g p : Nat) (n : Int) (w : World) (h : Rd w g p) (hp : p ≤ 1000000) (hn : n < 1) :
    Calls Tryd.prog 24 #[.pointer (some ⟨g, 0, none⟩), .int .i64 n] w (Drawn w g p n) := by
  obtain ⟨A, m, c, hc, hm, hr⟩ := h
  have c0 : w.cell? ⟨g, 0, none⟩ = some (.slice A m c) := by rw [cell_of_row w g 0 _ _ _ hc]; rfl
  have c1 : w.cell? ⟨g, 1, none⟩ = some (.int .i64 (p : Int)) := by rw [cell_of_row w g 1 _ _ _ hc]; rfl
  have f1 : w.frozen? ⟨g, 1, none⟩ = false := frozen_of_row w g 1 _ _ hc
  have HR := Lib.hid (Rd.asked hc hm hr (q := 0) rfl)
  clear hc hr
  go_enter Tryd.func24, Tryd.ntmps24
  go_wp2
  go_ret
  exact Drawn.zero rfl HR.out

set_option maxHeartbeats 1000000 in
theorem spec_pick_none (g p : Nat) (n : Int) (w : World) (A : Option Addr) (c : Nat) (hc : w.heap[g]? = some (.cells #[.slice A 0 c, .int .i64 (p : Int)] 47 (0, 0))) (hp : p ≤ 1000000) (hn : 1 ≤ n) :
    Calls Tryd.prog 24 #[.pointer (some ⟨g, 0, none⟩), .int .i64 n] w (Drawn w g p n) := by
  have c0 : w.cell? ⟨g, 0, none⟩ = some (.slice A 0 c) := by rw [cell_of_row w g 0 _ _ _ hc]; rfl
  have c1 : w.cell? ⟨g, 1, none⟩ = some (.int .i64 (p : Int)) := by rw [cell_of_row w g 1 _ _ _ hc]; rfl
  have f1 : w.frozen? ⟨g, 1, none⟩ = false := frozen_of_row w g 1 _ _ hc
  have HR := Lib.hid (Rd.asked hc (by omega) (.inl rfl) (q := 0) rfl)
  clear hc
  go_enter Tryd.func24, Tryd.ntmps24
  go_wp2
  go_ret
  exact Drawn.zero rfl HR.out

set_option maxHeartbeats 1000000 in
theorem spec_pick_byte (g p : Nat) (n : Int) (w : World) (A : Option Addr) (m c : Nat) (hc : w.heap[g]? = some (.cells #[.slice A m c, .int .i64 (p : Int)] 47 (0, 0))) (hm : m ≤ 2000) (hr : BRow w g A m) (hp : p ≤ 1000000) (hn : 1 ≤ n) (hpm : p < m) :
    Calls Tryd.prog 24 #[.pointer (some ⟨g, 0, none⟩), .int .i64 n] w (Drawn w g p n) := by
  have c0 : w.cell? ⟨g, 0, none⟩ = some (.slice A m c) := by rw [cell_of_row w g 0 _ _ _ hc]; rfl
  have c1 : w.cell? ⟨g, 1, none⟩ = some (.int .i64 (p : Int)) := by rw [cell_of_row w g 1 _ _ _ hc]; rfl
  have f1 : w.frozen? ⟨g, 1, none⟩ = false := frozen_of_row w g 1 _ _ hc
  have HR := Lib.hid (Rd.asked hc hm hr (q := 0) rfl)
  obtain ⟨b, off, z, rfl, hbg, hz, hz0, hz1⟩ := hr.byte hpm
  have hz' : (w.setCell ⟨g, 1, none⟩ (.int .i64 ((p : Int) + 1))).cell? ⟨b, off + p, none⟩ = some (.int .u8 z) := by
    rw [World.cell?_setCell_other _ _ _ _ (fun e => by injection e with h1; omega)]; exact hz
  have hm0 : ((m : Int) == 0) = false := by rw [beq_eq_false_iff_ne]; omega
  clear hc hr
  go_enter Tryd.func24, Tryd.ntmps24
  go_wp2
  go_ret
  exact Drawn.some_ (Int.emod_nonneg _ (by omega)) (Int.emod_lt_of_pos _ (by omega)) HR.out

set_option maxHeartbeats 2000000 in
theorem spec_pick_far (g p : Nat) (n : Int) (w : World) (A : Option Addr) (m c : Nat) (hc : w.heap[g]? = some (.cells #[.slice A m c, .int .i64 (p : Int)] 47 (0, 0))) (hm : m ≤ 2000) (hr : BRow w g A m) (hp : p ≤ 1000000) (hn : 1 ≤ n) (hn2 : n ≤ 1000000) (hpm : m ≤ p) (hm1 : 0 < m) :
    Calls Tryd.prog 24 #[.pointer (some ⟨g, 0, none⟩), .int .i64 n] w (Drawn w g p n) := by
  have c0 : w.cell? ⟨g, 0, none⟩ = some (.slice A m c) := by rw [cell_of_row w g 0 _ _ _ hc]; rfl
  have c1 : w.cell? ⟨g, 1, none⟩ = some (.int .i64 (p : Int)) := by rw [cell_of_row w g 1 _ _ _ hc]; rfl
  have f1 : w.frozen? ⟨g, 1, none⟩ = false := frozen_of_row w g 1 _ _ hc
  have HR := fun q => Rd.asked hc hm hr (q := q) rfl
  have HRR := Lib.hid HR
  obtain ⟨i1, e1, hi1⟩ := tmod_nat p m hm1
  obtain ⟨i2, e2, hi2⟩ := tmod_nat7 p m hm1
  obtain ⟨q, e3, hq⟩ := tdiv_nat p m hm1
  obtain ⟨b, off, z, y, rfl, hbg, hz, hz0, hz1, hy, hy0, hy1⟩ := hr.two hi1 hi2
  have hz' : (w.setCell ⟨g, 1, none⟩ (.int .i64 ((p : Int) + 1))).cell? ⟨b, off + i1, none⟩ = some (.int .u8 z) := by
    rw [World.cell?_setCell_other _ _ _ _ (fun e => by injection e with h1; omega)]; exact hz
  have hy' : (w.setCell ⟨g, 1, none⟩ (.int .i64 ((p : Int) + 1))).cell? ⟨b, off + i2, none⟩ = some (.int .u8 y) := by
    rw [World.cell?_setCell_other _ _ _ _ (fun e => by injection e with h1; omega)]; exact hy
  have hm0 : ((m : Int) == 0) = false := by rw [beq_eq_false_iff_ne]; omega
  clear hc hr HR
  have E1 := Lib.hid e1
  have E2 := Lib.hid e2
  have E3 := Lib.hid e3
  clear e1 e2 e3
  go_enter Tryd.func24, Tryd.ntmps24
  go_wp2_with fail
  have e1 := E1.out
  have e2 := E2.out
  have e3 := E3.out
  have k1 : IntKind.i64.wrap (z * 131) = z * 131 := IntWalk.i64_in _ (by omega)
  have k2 : IntKind.i64.wrap ((p : Int) * 7) = (p : Int) * 7 := IntWalk.i64_in _ (by omega)
  have k3 : IntKind.i64.wrap ((p : Int) * 7 + 3) = (p : Int) * 7 + 3 := IntWalk.i64_in _ (by omega)
  have k4 : IntKind.i64.wrap (y * 1117) = y * 1117 := IntWalk.i64_in _ (by omega)
  have k5 : IntKind.i64.wrap (z * 131 + y * 1117) = z * 131 + y * 1117 := IntWalk.i64_in _ (by omega)
  have k6 : IntKind.i64.wrap ((p : Int) * 29) = (p : Int) * 29 := IntWalk.i64_in _ (by omega)
  have k7 : IntKind.i64.wrap (z * 131 + y * 1117 + (p : Int) * 29) = z * 131 + y * 1117 + (p : Int) * 29 := IntWalk.i64_in _ (by omega)
  have k8 : IntKind.i64.wrap ((q : Int)) = (q : Int) := IntWalk.i64_in _ (by omega)
  have k9 : IntKind.i64.wrap ((q : Int) * 53) = (q : Int) * 53 := IntWalk.i64_in _ (by omega)
  have k10 : IntKind.i64.wrap (z * 131 + y * 1117 + (p : Int) * 29 + (q : Int) * 53) = z * 131 + y * 1117 + (p : Int) * 29 + (q : Int) * 53 := IntWalk.i64_in _ (by omega)
  go_quiet (fail)
  clear k1 k2 k3 k4 k5 k6 k7 k8 k9 k10 e1 e2 e3
  have hX0 : 0 ≤ z * 131 + y * 1117 + (p : Int) * 29 + (q : Int) * 53 := by omega
  have hX1 : z * 131 + y * 1117 + (p : Int) * 29 + (q : Int) * 53 ≤ 1000000000 := by omega
  generalize z * 131 + y * 1117 + (p : Int) * 29 + (q : Int) * 53 = X at *
  obtain ⟨hY0, hY1⟩ := xor_bd X (X / 64) hX0 (by omega) (by omega) (by omega)
  go_wp2
  go_ret
  exact Drawn.some_ (Int.emod_nonneg _ (by omega)) (Int.emod_lt_of_pos _ (by omega)) (HRR.out _)

theorem spec_pick (g p : Nat) (n : Int) (w : World) (h : Rd w g p) (hp : p ≤ 1000000) (hn1 : -1000000 ≤ n) (hn2 : n ≤ 1000000) :
    Calls Tryd.prog 24 #[.pointer (some ⟨g, 0, none⟩), .int .i64 n] w (Drawn w g p n) := by
  by_cases hn : n < 1
  · exact spec_pick_zero g p n w h hp hn
  · obtain ⟨A, m, c, hc, hm, hr⟩ := h
    by_cases hm0 : m = 0
    · subst hm0
      exact spec_pick_none g p n w A c hc hp (by omega)
    · by_cases hpm : p < m
      · exact spec_pick_byte g p n w A m c hc hm hr hp (by omega) hpm
      · exact spec_pick_far g p n w A m c hc hm hr hp (by omega) hn2 (by omega) (by omega)
end Go.Proofs.YtchjhngfkngljaaDoor
