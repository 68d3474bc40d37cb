/- The walks of the laws on machines that hold a loop. No condition. -/
import Derived.Test.YtibjiadgmlpceaaDrawT4
import Derived.Test.YtibjiadgmlpceaaPlainT
import Derived.BigQuiet
import Derived.Deep.QuietTactic
set_option linter.unusedVariables false
namespace Go.Proofs.Ytibjiadgmlpceaa
open Go.RowKit

theorem smallT {r : ByteArray} {l : List Nat} (h : nb r = l) (hl : l.length ≤ 1000) : r.size ≤ maxLen := by rw [← nb_length, h]; unfold maxLen; omega
theorem size_of {r : ByteArray} {l : List Nat} {n : Nat} (h : nb r = l) (hl : l.length = n) : r.size = n := by rw [← nb_length, h, hl]
theorem beq_len {a b : Nat} (h : a = b) : ((a : Int) == (b : Int)) = true := by rw [h]; simp
theorem extract_nb {s r : ByteArray} {k : Nat} (h : nb r = (nb s).take k) : s.extract 0 k = r := nb_inj (by rw [nb_extract, h]; rfl)
theorem byte_of {s : ByteArray} {l : List Nat} {k c : Nat} (h : nb s = l) (hc : l[k]? = some c) : ∃ hk : k < s.size, s[k].toNat = c := by
  subst h
  have hk : k < s.size := by rw [← nb_length]; exact (List.getElem?_eq_some_iff.1 hc).1
  refine ⟨hk, ?_⟩
  have := nb_get? s k hk
  rw [hc] at this
  injection this with this
  exact this.symm
theorem ms_at {mo : ByteArray} {n k : Nat} {y : Int} (h : (stopsL mo n)[k]? = some y) : ∃ j : Nat, y = (j : Int) ∧ j < n ∧ bitAt mo j = 0 := stops_mem (List.mem_of_getElem? h)
theorem u8ne (x : Nat) : ((x : Int) != (x : Int)) = false := by simp
theorem wrap_succ {j : Nat} (h : j ≤ 1000) : IntKind.i64.wrap ((j : Int) + 1) = (j : Int) + 1 := IntWalk.i64_in _ (by omega)
set_option maxHeartbeats 4000000 in
theorem walk_FnKeyStops (a0 : Option Addr) (len0 cap0 : Nat) (z0 : List Int) (w : World) (w0 : IsRow .u8 w a0 len0 cap0 z0) :
    Calls Try.prog 4 #[.slice a0 len0 cap0] w fun e w' => e = .returned (.bool true) ∧ Below w.heap.size w w' := by
  have hl := w0.len_le
  by_cases hbig : 1048576 < len0
  · clear w0
    go_enter Try.func4, Try.ntmps4
    go_wp2_with fail
    go_ret
    exact ⟨rfl, Below.refl _ _⟩
  · have W0 := Lib.hid w0
    clear w0
    go_enter Try.func4, Try.ntmps4
    go_wp2_with fail
    refine (spec_DrawTeleKey _ _ _ _ _ W0.out).mono ?_
    rintro e v1 ⟨A, n, c, B, m, d, mo, chi, psi, z, rfl, hM1, hb1⟩
    have hb2 := belA v1 (.cells #[.slice A n c, .slice B m d, .string mo] 25)
    have hT2 := tbox v1 A n c B m d mo
    have HT := Lib.hid hT2
    have hB2 := bthen hb1 hb2
    have HM := Lib.hid (hM1.mach.next hb2)
    clear hT2 hM1
    go_wp2_with fail
    refine (impl_TeleKey _ _ _ _ _ _ chi psi mo z _ HM.out).mono ?_
    rintro e v3 ⟨s, rfl, hs, hb3⟩
    have hB3 := bthen hB2 hb3
    have HT3 := Lib.hid (HT.out.next hb3)
    have HM3 := Lib.hid (HM.out.next hb3)
    have Hs := Lib.hid hs
    clear hs
    have q0 : v3.cell? ⟨v1.heap.size, 0, none⟩ = some (.slice A n c) := HT3.out.cell (j := 0) rfl
    have q1 : v3.cell? ⟨v1.heap.size, 1, none⟩ = some (.slice B m d) := HT3.out.cell (j := 1) rfl
    have q2 : v3.cell? ⟨v1.heap.size, 2, none⟩ = some (.string mo) := HT3.out.cell (j := 2) rfl
    go_wp2_with fail
    refine (spec_TeleKey _ _ _ _ _ _ chi psi mo z _ HM3.out).mono ?_
    rintro e v4 ⟨s2, rfl, hs2, hb4⟩
    have hB4 := bthen hB3 hb4
    have HT4 := Lib.hid (HT3.out.next hb4)
    have HM4 := Lib.hid (HM3.out.next hb4)
    obtain rfl : s = s2 := nb_inj (by rw [Hs.out, hs2])
    clear hs2
    clear q0 q1 q2
    have q0 : v4.cell? ⟨v1.heap.size, 0, none⟩ = some (.slice A n c) := HT4.out.cell (j := 0) rfl
    have q1 : v4.cell? ⟨v1.heap.size, 1, none⟩ = some (.slice B m d) := HT4.out.cell (j := 1) rfl
    have q2 : v4.cell? ⟨v1.heap.size, 2, none⟩ = some (.string mo) := HT4.out.cell (j := 2) rfl
    cases hv : tfit chi psi mo z
    · go_wp2_with fail
      go_ret
      exact ⟨rfl, hB4⟩
    · obtain ⟨hc3, hp3, hmo, N, rfl, hN⟩ := tfit_yes hv
      have hsm : s.size ≤ maxLen := smallT Hs.out (by have := tk_le chi psi mo (N : Int); omega)
      have Hv := Lib.hid hv
      have Hc3 := Lib.hid hc3
      clear hc3 hp3 hmo
      go_wp2_with fail
      refine (impl_ChiTape _ _ _ _ _ _ chi psi mo (N : Int) _ HM4.out).mono ?_
      rintro e v5 ⟨x, rfl, hx, hb5⟩
      have hB5 := bthen hB4 hb5
      have HT5 := Lib.hid (HT4.out.next hb5)
      have HM5 := Lib.hid (HM4.out.next hb5)
      have Hx := Lib.hid (hx.trans (ct_of Hv.out))
      have hxm : x.size ≤ maxLen := smallT Hx.out (by rw [chiL_len]; omega)
      clear hx
      go_wp2_with fail
      refine (impl_DeltaTape s _ hsm).mono ?_
      rintro e v6 ⟨da, rfl, hda, hb6⟩
      have hB6 := bthen hB5 hb6
      have HT6 := Lib.hid (HT5.out.next hb6)
      have HM6 := Lib.hid (HM5.out.next hb6)
      rw [Hs.out, dt, tv_tk Hv.out, if_pos rfl] at hda
      have Ha := Lib.hid hda
      clear hda
      go_wp2_with fail
      refine (impl_DeltaTape x _ hxm).mono ?_
      rintro e v7 ⟨db, rfl, hdb, hb7⟩
      have hB7 := bthen hB6 hb7
      have HT7 := Lib.hid (HT6.out.next hb7)
      have HM7 := Lib.hid (HM6.out.next hb7)
      rw [Hx.out, dt, tv_chi Hc3.out hN, if_pos rfl] at hdb
      have Hb := Lib.hid hdb
      have hza := size_of Ha.out (by rw [deltaL_len, tk_lenE Hv.out])
      have hzb := size_of Hb.out (by rw [deltaL_len, chiL_len])
      clear hdb
      clear q0 q1 q2
      have q0 : v7.cell? ⟨v1.heap.size, 0, none⟩ = some (.slice A n c) := HT7.out.cell (j := 0) rfl
      have q1 : v7.cell? ⟨v1.heap.size, 1, none⟩ = some (.slice B m d) := HT7.out.cell (j := 1) rfl
      have q2 : v7.cell? ⟨v1.heap.size, 2, none⟩ = some (.string mo) := HT7.out.cell (j := 2) rfl
      go_wp2_with fail
      refine (impl_MotorStops _ _ _ _ _ _ chi psi mo (N : Int) _ HM7.out).mono ?_
      rintro e v8 ⟨L, nl, cl, rfl, hll, hol, hb8⟩
      have hB8 := bthen hB7 hb8
      have HT8 := Lib.hid (HT7.out.next hb8)
      have HM8 := Lib.hid (HM7.out.next hb8)
      rw [ms_of Hv.out] at hll hol
      have hln : nl ≤ 200 := by have := stopsL_len mo (N - 1); omega
      have Hl := Lib.hid hll
      have HL := Lib.hid hol.ints
      clear hll hol q0 q1 q2
      go_wp2_with fail
      go_loopw [14] (fun i wr => ∃ k : Nat, k ≤ nl ∧ i = .int .i64 k ∧ Below v8.heap.size v8 wr) (fun i _ => nl - (intOf i).toNat)
      case atStart => exact ⟨0, Nat.zero_le _, rfl, Below.refl _ _⟩
      case round =>
        obtain ⟨k, hk, rfl, hbe⟩ := hrel
        by_cases hlt : k < nl
        · obtain ⟨y, hy⟩ := get_some (stopsL mo (N - 1)) k (by rw [Hl.out]; exact hlt)
          obtain ⟨j, rfl, hj, hbit⟩ := ms_at hy
          obtain ⟨b, off, rfl, hbl, hc⟩ := (HL.out.next hbe).at_ hy
          obtain ⟨u, e1, e2⟩ := key_stop Hv.out (by omega : j + 1 < N) hbit
          obtain ⟨hk1, hb1⟩ := byte_of Ha.out e1
          obtain ⟨hk2, hb2⟩ := byte_of Hb.out e2
          have hj1 : (j : Int) < (da.size : Int) := by omega
          have hj2 : (j : Int) < (db.size : Int) := by omega
          have Hy := Lib.hid hy
          clear hy e1 e2 hbit
          go_wp2_with fail
          go_quiet (fail)
          go_wp2
          go_roundw
          case rel => exact ⟨k + 1, by omega, by go_num, bel_drewN hbe _⟩
          case measure => simp [intOf]; omega
        · have hzz : ((da.size : Int) == (db.size : Int)) = true := beq_len (by omega)
          go_wp2_with fail
          go_ret
          exact ⟨rfl, bthen hB8 hbe⟩
end Go.Proofs.Ytibjiadgmlpceaa
