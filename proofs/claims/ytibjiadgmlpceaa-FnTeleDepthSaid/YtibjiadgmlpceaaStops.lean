/- The places behind which the second wheels stand still: both programs return what the plain function says. No condition. -/
import Derived.Test.YtibjiadgmlpceaaTele4
set_option linter.unusedVariables false
namespace Go.Proofs.Ytibjiadgmlpceaa
open Go.RowKit

def stopsL (mo : ByteArray) (n : Nat) : List Int := ((List.range n).filter fun i => bitAt mo i == 0).map fun i : Nat => (i : Int)
theorem stopsL_yes {mo : ByteArray} {k : Nat} (h : bitAt mo k = 0) : stopsL mo (k + 1) = stopsL mo k ++ [(k : Int)] := by
  simp [stopsL, List.range_succ, List.filter_append, h]
theorem stopsL_no {mo : ByteArray} {k : Nat} (h : bitAt mo k = 1) : stopsL mo (k + 1) = stopsL mo k := by
  simp [stopsL, List.range_succ, List.filter_append, h]
theorem stopsL_len (mo : ByteArray) (n : Nat) : (stopsL mo n).length ≤ n := by
  unfold stopsL
  rw [List.length_map]
  exact Nat.le_trans (List.length_filter_le _ _) (by simp)
def ms (chi psi : List ByteArray) (mo : ByteArray) (z : Int) : List Int := if tfit chi psi mo z then stopsL mo (z.toNat - 1) else []
theorem ms_len (chi psi : List ByteArray) (mo : ByteArray) (z : Int) : (ms chi psi mo z).length ≤ 200 := by
  unfold ms
  split
  · rename_i h
    obtain ⟨_, _, _, N, rfl, hN⟩ := tfit_yes h
    have := stopsL_len mo ((N : Int).toNat - 1)
    omega
  · simp
theorem emptyRowI (w : World) (B : Nat) (hB : B ≤ w.heap.size) : (w.alloc (.cells #[] 3)).ownsRow B 3 1 (.slice (some ⟨w.heap.size, 0, none⟩) 0 0) 0 (icells []) :=
  World.ownsRow_lit w #[] 0 hB (Nat.zero_le _) rfl
set_option maxHeartbeats 1000000 in
theorem impl_MotorStops (A B : Option Addr) (n c m d : Nat) (chi psi : List ByteArray) (mo : ByteArray) (z : Int) (w : World) (h : Mach w A n B m chi psi mo) :
    Calls Try.prog 13 #[.agg #[.slice A n c, .slice B m d, .string mo], .int .i64 z] w (RetI w (ms chi psi mo z)) := by
  have H := Lib.hid (h.next (belA w (.cells #[.slice A n c, .slice B m d, .string mo] 25)))
  have HB := Lib.hid (belA w (.cells #[.slice A n c, .slice B m d, .string mo] 25))
  clear h
  cases hv : tfit chi psi mo z
  · have hr : ms chi psi mo z = [] := by rw [ms, hv]; rfl
    rw [hr]
    clear hr
    go_enter Try.func13, Try.ntmps13
    go_wp2_with fail
    refine (impl_teleLength _ _ _ _ _ _ _ _ _ _ _ H.out).mono ?_
    rintro e v1 ⟨rfl, hb1⟩
    go_wp2_with fail
    go_ret
    exact ⟨none, 0, 0, rfl, rfl, .inl rfl, bthen HB.out hb1⟩
  · obtain ⟨hc3, hp3, hmo, N, rfl, hN⟩ := tfit_yes hv
    have hr : ms chi psi mo (N : Int) = stopsL mo (N - 1) := by rw [ms, hv]; rfl
    rw [hr]
    clear hr
    have HM := Lib.hid hmo
    have hT := tbox w A n c B m d mo
    clear hc3 hp3 hmo
    go_enter Try.func13, Try.ntmps13
    go_wp2_with fail
    refine (impl_teleLength _ _ _ _ _ _ _ _ _ _ _ H.out).mono ?_
    rintro e v1 ⟨rfl, hb1⟩
    have hB1 := bthen HB.out hb1
    have hT1 := hT.next hb1
    clear hT
    go_wp2_with fail
    go_loopw [5, 13] (fun o i wr => ∃ k : Nat, (k = 0 ∨ k + 1 ≤ N) ∧ i = .int .i64 k ∧ wr.ownsRow v1.heap.size 3 1 o (stopsL mo k).length (icells (stopsL mo k)) ∧ Below v1.heap.size v1 wr) (fun _ i _ => N - (intOf i).toNat)
    case atStart => exact ⟨0, .inl rfl, rfl, ⟨rfl, .inl ⟨rfl, rfl⟩⟩, Below.refl _ _⟩
    case round =>
      obtain ⟨k, hk, rfl, hrk, hbe⟩ := hrel
      have hB2 := bthen hB1 hbe
      by_cases hlt : k + 1 < N
      · have hT2 := hT1.next hbe
        have q0 : wr.cell? ⟨w.heap.size, 0, none⟩ = some (.slice A n c) := hT2.cell (j := 0) rfl
        have q1 : wr.cell? ⟨w.heap.size, 1, none⟩ = some (.slice B m d) := hT2.cell (j := 1) rfl
        have q2 : wr.cell? ⟨w.heap.size, 2, none⟩ = some (.string mo) := hT2.cell (j := 2) rfl
        have hls := stopsL_len mo k
        have Hrk := Lib.hid hrk
        have HT1 := Lib.hid hT1
        clear hrk hT1 hT2
        rcases le1 (bitAt_le HM.out k) with hbit | hbit
        · have hq : (bitAt mo k == 1) = false := by rw [hbit]; rfl
          have Hst := Lib.hid (stopsL_yes hbit)
          clear hbit
          go_wp2_with fail
          refine (impl_motorMoves _ _ _ _ _ _ mo k _ HM.out (by omega)).mono ?_
          rintro e v3 ⟨rfl, hb3⟩
          have hb3' := bthenB hbe hb3 hbe.size
          have Ho3 := Lib.hid (own_kept Hrk.out hb3)
          go_wp2_with (at_builtin; go_must (refine wpList_append_int v3 rfl _ _ rfl v1.heap.size _ _ _ (k : Int) Ho3.out rfl rfl (by omega) hb3'.size ?_); intro v' w1 hown' hbel'; have Ho := Lib.hid hown'; clear hown')
          go_roundw
          case rel => exact ⟨k + 1, by omega, by go_num, by rw [Hst.out, List.length_append]; exact Ho.out, hb3'.trans hbel'⟩
          case measure => simp [intOf]; omega
        · have hq : (bitAt mo k == 1) = true := by rw [hbit]; rfl
          have Hst := Lib.hid (stopsL_no hbit)
          clear hbit
          go_wp2_with fail
          refine (impl_motorMoves _ _ _ _ _ _ mo k _ HM.out (by omega)).mono ?_
          rintro e v3 ⟨rfl, hb3⟩
          have hb3' := bthenB hbe hb3 hbe.size
          have Ho3 := Lib.hid (own_kept Hrk.out hb3)
          go_wp2_with fail
          go_roundw
          case rel => exact ⟨k + 1, by omega, by go_num, by rw [Hst.out]; exact Ho3.out, hb3'⟩
          case measure => simp [intOf]; omega
      · have hkn : k = N - 1 := by omega
        rw [hkn] at hrk
        have Hrk := Lib.hid hrk
        clear hrk
        go_wp2_with fail
        go_ret
        obtain ⟨A', c', rfl, hl, ho⟩ := own_of_row Hrk.out
        exact ⟨A', _, c', rfl, hl, ho.less hB1.size, hB2⟩
end Go.Proofs.Ytibjiadgmlpceaa
