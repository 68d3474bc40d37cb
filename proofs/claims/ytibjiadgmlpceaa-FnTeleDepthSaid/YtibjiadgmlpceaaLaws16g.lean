/- The walk of the law on two tapes that are enciphered with one machine. No condition. -/
import Derived.Test.YtibjiadgmlpceaaDrawT4
import Derived.Test.YtibjiadgmlpceaaPlainT
import Derived.BigQuiet
import Derived.Deep.QuietTactic
import Derived.Deep.RegionLaw
import Derived.Deep.RegionHeld3
import Derived.RegionTactic
import Derived.Test.YtibjiadgmlpceaaRegG
set_option linter.unusedVariables false
namespace Go.Proofs.Ytibjiadgmlpceaa
open Go.RowKit

theorem smallT {r : ByteArray} {l : List Nat} (h : nb r = l) (hl : l.length ≤ 1000) : r.size ≤ maxLen := by rw [← nb_length, h]; unfold maxLen; omega
theorem size_of {r : ByteArray} {l : List Nat} {n : Nat} (h : nb r = l) (hl : l.length = n) : r.size = n := by rw [← nb_length, h, hl]
theorem beq_len {a b : Nat} (h : a = b) : ((a : Int) == (b : Int)) = true := by rw [h]; simp
theorem extract_nb {s r : ByteArray} {k : Nat} (h : nb r = (nb s).take k) : s.extract 0 k = r := nb_inj (by rw [nb_extract, h]; rfl)
theorem byte_of {s : ByteArray} {l : List Nat} {k c : Nat} (h : nb s = l) (hc : l[k]? = some c) : ∃ hk : k < s.size, s[k].toNat = c := by
  subst h
  have hk : k < s.size := by rw [← nb_length]; exact (List.getElem?_eq_some_iff.1 hc).1
  refine ⟨hk, ?_⟩
  have := nb_get? s k hk
  rw [hc] at this
  injection this with this
  exact this.symm
theorem xt_lt (v w : List Nat) : ∀ x ∈ xt v w, x < 256 := by
  unfold xt
  split
  · rename_i h
    obtain ⟨h1, h2, _⟩ := g3_yes h
    exact xorL_lt fun k c d hc hd => ⟨(tv_at h1 hc).1, (tv_at h1 hc).2, (tv_at h2 hd).1, (tv_at h2 hd).2⟩
  · intro x hx; simp at hx
set_option maxRecDepth 20000 in
set_option maxHeartbeats 1000000 in
theorem walk_FnTeleDepth (a0 : Option Addr) (len0 cap0 : Nat) (z0 : List Int) (a1 : Option Addr) (len1 cap1 : Nat) (z1 : List Int) (w : World) (w0 : IsRow .u8 w a0 len0 cap0 z0) (w1 : IsRow .u8 w a1 len1 cap1 z1) :
    Calls Try.prog 6 #[.slice a0 len0 cap0, .slice a1 len1 cap1] w fun e w' => e = .returned (.bool true) ∧ Below w.heap.size w w' := by
  have hl := w0.len_le
  have hl1 := w1.len_le
  by_cases hbig : 1048576 < len0
  · clear w0 w1
    go_enter Try.func6, Try.ntmps6
    go_wp2_with fail
    go_ret
    exact ⟨rfl, Below.refl _ _⟩
  by_cases hbig1 : 1048576 < len1
  · clear w0 w1
    go_enter Try.func6, Try.ntmps6
    go_wp2_with fail
    go_ret
    exact ⟨rfl, Below.refl _ _⟩
  · have W0 := Lib.hid w0
    have W1 := Lib.hid w1
    clear w0 w1
    go_enter Try.func6, Try.ntmps6
    go_wp2_with fail
    refine (spec_DrawTeleEncipher _ _ _ _ _ W0.out).mono ?_
    rintro e v1 ⟨A, n, c, B, m, d, mo, chi, psi, t, rfl, ht, hM1, hb1⟩
    have htm : t.size ≤ maxLen := by unfold maxLen; omega
    have hb2 := belA v1 (.cells #[.slice A n c, .slice B m d, .string mo] 25)
    have hT2 := tbox v1 A n c B m d mo
    have HT := Lib.hid hT2
    have hB2 := bthen hb1 hb2
    have HM := Lib.hid (hM1.mach.next hb2)
    clear hT2 hM1
    go_wp2_with fail
    refine (spec_DrawTeleEncipher _ _ _ _ _ (W1.out.next hB2)).mono ?_
    rintro e v3 ⟨A9, n9, c9, B9, m9, d9, mo9, chi9, psi9, y, rfl, hy, hM9, hb3⟩
    have hB3 := bthen hB2 hb3
    have HT3 := Lib.hid (HT.out.next hb3)
    have HM3 := Lib.hid (HM.out.next hb3)
    have hym : y.size ≤ maxLen := by unfold maxLen; omega
    have hbx := belA v3 (.cells #[.slice A9 n9 c9, .slice B9 m9 d9, .string mo9] 25)
    have hBx := bthen hB3 hbx
    have HTx := Lib.hid (HT3.out.next hbx)
    have HMx := Lib.hid (HM3.out.next hbx)
    clear hM9
    have q0 : (v3.alloc (.cells #[.slice A9 n9 c9, .slice B9 m9 d9, .string mo9] 25)).cell? ⟨v1.heap.size, 0, none⟩ = some (.slice A n c) := HTx.out.cell (j := 0) rfl
    have q1 : (v3.alloc (.cells #[.slice A9 n9 c9, .slice B9 m9 d9, .string mo9] 25)).cell? ⟨v1.heap.size, 1, none⟩ = some (.slice B m d) := HTx.out.cell (j := 1) rfl
    have q2 : (v3.alloc (.cells #[.slice A9 n9 c9, .slice B9 m9 d9, .string mo9] 25)).cell? ⟨v1.heap.size, 2, none⟩ = some (.string mo) := HTx.out.cell (j := 2) rfl
    go_wp2_with fail
    refine (impl_TeleEncipher _ _ _ _ _ _ chi psi mo t _ HMx.out htm).mono ?_
    rintro e v4 ⟨s, rfl, hs, hb4⟩
    have hB4 := bthen hBx hb4
    have HT4 := Lib.hid (HTx.out.next hb4)
    have HM4 := Lib.hid (HMx.out.next hb4)
    have Hs := Lib.hid hs
    clear hs
    clear q0 q1 q2
    have q0 : v4.cell? ⟨v1.heap.size, 0, none⟩ = some (.slice A n c) := HT4.out.cell (j := 0) rfl
    have q1 : v4.cell? ⟨v1.heap.size, 1, none⟩ = some (.slice B m d) := HT4.out.cell (j := 1) rfl
    have q2 : v4.cell? ⟨v1.heap.size, 2, none⟩ = some (.string mo) := HT4.out.cell (j := 2) rfl
    go_wp2_with fail
    refine (spec_TeleEncipher _ _ _ _ _ _ chi psi mo t _ HM4.out htm).mono ?_
    rintro e v5 ⟨s2, rfl, hs2, hb5⟩
    have hB5 := bthen hB4 hb5
    have HT5 := Lib.hid (HT4.out.next hb5)
    have HM5 := Lib.hid (HM4.out.next hb5)
    obtain rfl : s = s2 := nb_inj (by rw [Hs.out, hs2])
    clear hs2
    clear q0 q1 q2
    have q0 : v5.cell? ⟨v1.heap.size, 0, none⟩ = some (.slice A n c) := HT5.out.cell (j := 0) rfl
    have q1 : v5.cell? ⟨v1.heap.size, 1, none⟩ = some (.slice B m d) := HT5.out.cell (j := 1) rfl
    have q2 : v5.cell? ⟨v1.heap.size, 2, none⟩ = some (.string mo) := HT5.out.cell (j := 2) rfl
    cases hv : teOk chi psi mo (nb t)
    · go_wp2_with fail
      go_ret
      exact ⟨rfl, hB5⟩
    · cases hty : tv (nb y)
      · go_wp2_with fail
        refine (impl_TapeValid y _ hym).mono ?_
        rintro e u1 ⟨rfl, rfl⟩
        go_wp2_with fail
        go_ret
        exact ⟨rfl, hB5⟩
      · obtain ⟨K, hK⟩ : ∃ K : Nat, min t.size y.size = K := ⟨_, rfl⟩
        have hK1 : K ≤ t.size := by omega
        have hK2 : K ≤ y.size := by omega
        have hsz := size_of Hs.out (te_len hv)
        rw [nb_length] at hsz
        have hK3 : K ≤ s.size := by omega
        have Hv := Lib.hid hv
        have hvY : teOk chi psi mo (nb (y.extract 0 K)) = true := by
          rw [teOk_of, Bool.and_eq_true] at hv ⊢
          exact ⟨hv.1, by rw [nb_extract]; exact tv_take hty K⟩
        have HvY := Lib.hid hvY
        have hxm : (y.extract 0 K).size ≤ maxLen := by rw [ByteArray.size_extract]; unfold maxLen; omega
        have htx : (t.extract 0 K).size ≤ maxLen := by rw [ByteArray.size_extract]; unfold maxLen; omega
        have hsx : (s.extract 0 K).size ≤ maxLen := by rw [ByteArray.size_extract]; unfold maxLen; omega
        have Hty := Lib.hid hty
        have hcase : ((y.size : Int) < (t.size : Int) ∧ (y.size : Int) = (K : Int)) ∨ (¬ (y.size : Int) < (t.size : Int) ∧ (t.size : Int) = (K : Int)) := by omega
        go_wp2_with fail
        refine (impl_TapeValid y _ hym).mono ?_
        rintro e u1 ⟨rfl, rfl⟩
        have hbd : Below v5.heap.size v5 v5.drew := (Below.refl _ _).drew
        have HMd := Lib.hid (HM5.out.next hbd)
        have hBd := bthen hB5 hbd
        rcases hcase with ⟨hc1, hc2⟩ | ⟨hc1, hc2⟩
        all_goals
          go_wp2_with fail
          go_region_law (first | (go_simp; go_at_call 15; refine (impl_TeleEncipher _ _ _ _ _ _ chi psi mo (y.extract 0 K) _ HMd.out hxm).mono ?_; rw [HvY.out]; rintro e u2 ⟨x, rfl, hx, hbu⟩))
          all_goals
            have hxz : x.size ≤ maxLen := smallT hx (by have := te_le chi psi mo (nb (y.extract 0 K)); omega)
            have Hx := Lib.hid hx
            have hB2 := bthen hBd hbu
            obtain ⟨R, hR⟩ := nb_of_list (xt (nb (t.extract 0 K)) (nb (y.extract 0 K))) (xt_lt _ _)
            have hvT : teOk chi psi mo (nb (t.extract 0 K)) = true := by rw [nb_extract]; exact te_takeOk Hv.out K
            have hc1' : ∀ u : World, Calls Try.prog 18 #[.string (s.extract 0 K), .string x] u fun e u' => e = .returned (.string R) ∧ Below u.heap.size u u' := by
              intro u
              refine (laws_rcXor (s.extract 0 K) x u hsx hxz).mono ?_
              rintro e u3 ⟨r1, rfl, hr1, hbu3⟩
              obtain rfl : r1 = R := nb_inj (by
                rw [hr1, hR, Hx.out]
                have e1 : nb (s.extract 0 K) = te chi psi mo (nb (t.extract 0 K)) := by
                  rw [nb_extract, nb_extract, Hs.out]
                  exact (te_take Hv.out (by rw [nb_length]; exact hK1)).symm
                rw [e1]
                exact te_depth hvT HvY.out (by rw [nb_length, nb_length, ByteArray.size_extract, ByteArray.size_extract]; omega))
              exact ⟨rfl, hbu3⟩
            have hc2' : ∀ u : World, Calls Try.prog 18 #[.string (t.extract 0 K), .string (y.extract 0 K)] u fun e u' => e = .returned (.string R) ∧ Below u.heap.size u u' := by
              intro u
              refine (laws_rcXor (t.extract 0 K) (y.extract 0 K) u htx hxm).mono ?_
              rintro e u3 ⟨r1, rfl, hr1, hbu3⟩
              obtain rfl : r1 = R := nb_inj (by rw [hr1, hR])
              exact ⟨rfl, hbu3⟩
            clear hvT hR
            have hKs : K ≤ s.size := by omega
            have hKt : K ≤ t.size := by omega
            have hKy : K ≤ y.size := by omega
            go_wp2_with fail
            refine wp_region_noPanic ?_
            refine wp_region_held (S := fun u => Below u2.heap.size u2 u) (by kernel_rfl) ?_
            have hS0 : Below u2.heap.size u2 { u2 with drawn := u2.drawn + 1 } := (Below.refl _ _).drew
            refine wpAnyH_take (i := 0) (v := .bool true) rfl (by kernel_rfl) (by kernel_rfl) (by kernel_rfl) (fun _ _ _ h => h) (.inl ⟨by kernel_rfl, fun u _ => by kernel_rfl⟩) hS0 ?_
            refine wpAnyH_take (i := 1) (v := .bool true) rfl (by kernel_rfl) (by kernel_rfl) (by kernel_rfl) (fun _ _ _ h => h) (.inl ⟨by kernel_rfl, fun u _ => by kernel_rfl⟩) hS0 ?_
            refine wpAnyH_take (i := 2) (v := .string s) rfl (by kernel_rfl) (by kernel_rfl) (by kernel_rfl) (fun _ _ _ h => h) (.inl ⟨by kernel_rfl, fun u _ => by kernel_rfl⟩) hS0 ?_
            refine wpAnyH_take (i := 3) (v := .int .i64 (K : Int)) rfl (by kernel_rfl) (by kernel_rfl) (by kernel_rfl) (fun _ _ _ h => h) (.inl ⟨by kernel_rfl, fun u _ => by kernel_rfl⟩) hS0 ?_
            refine wpAnyH_take (i := 4) (v := .string (s.extract 0 K)) rfl (by kernel_rfl) (by kernel_rfl) (by kernel_rfl) (fun _ _ _ h => h) (.inl ⟨by kernel_rfl, fun u _ => exec_take _ _ _ _ u s K rfl (by kernel_rfl) (by kernel_rfl) hKs⟩) hS0 ?_
            refine wpAnyH_take (i := 5) (v := .string x) rfl (by kernel_rfl) (by kernel_rfl) (by kernel_rfl) (fun _ _ _ h => h) (.inl ⟨by kernel_rfl, fun u _ => by kernel_rfl⟩) hS0 ?_
            refine wpAnyH_take (i := 7) (v := .string t) rfl (by kernel_rfl) (by kernel_rfl) (by kernel_rfl) (fun _ _ _ h => h) (.inl ⟨by kernel_rfl, fun u _ => by kernel_rfl⟩) hS0 ?_
            refine wpAnyH_take (i := 8) (v := .int .i64 (K : Int)) rfl (by kernel_rfl) (by kernel_rfl) (by kernel_rfl) (fun _ _ _ h => h) (.inl ⟨by kernel_rfl, fun u _ => by kernel_rfl⟩) hS0 ?_
            refine wpAnyH_take (i := 9) (v := .string (t.extract 0 K)) rfl (by kernel_rfl) (by kernel_rfl) (by kernel_rfl) (fun _ _ _ h => h) (.inl ⟨by kernel_rfl, fun u _ => exec_take _ _ _ _ u t K rfl (by kernel_rfl) (by kernel_rfl) hKt⟩) hS0 ?_
            refine wpAnyH_take (i := 10) (v := .string y) rfl (by kernel_rfl) (by kernel_rfl) (by kernel_rfl) (fun _ _ _ h => h) (.inl ⟨by kernel_rfl, fun u _ => by kernel_rfl⟩) hS0 ?_
            refine wpAnyH_take (i := 11) (v := .int .i64 (K : Int)) rfl (by kernel_rfl) (by kernel_rfl) (by kernel_rfl) (fun _ _ _ h => h) (.inl ⟨by kernel_rfl, fun u _ => by kernel_rfl⟩) hS0 ?_
            refine wpAnyH_take (i := 12) (v := .string (y.extract 0 K)) rfl (by kernel_rfl) (by kernel_rfl) (by kernel_rfl) (fun _ _ _ h => h) (.inl ⟨by kernel_rfl, fun u _ => exec_take _ _ _ _ u y K rfl (by kernel_rfl) (by kernel_rfl) hKy⟩) hS0 ?_
            refine wpAnyH_xor (n := 6) (i := 88) (j := 89) (v1 := .string (s.extract 0 K)) (v2 := .string x) (R := R) rfl rfl (by kernel_rfl) (by kernel_rfl) (by kernel_rfl) (by kernel_rfl) (hc1' _) (fun _ hb => bthen hS0 hb) ?_
            intro u3 hS3
            refine wpAnyH_xor (n := 13) (i := 93) (j := 96) (v1 := .string (t.extract 0 K)) (v2 := .string (y.extract 0 K)) (R := R) rfl rfl (by kernel_rfl) (by kernel_rfl) (by kernel_rfl) (by kernel_rfl) (hc2' _) (fun _ hb => bthen hS3 hb) ?_
            intro u4 hS4
            refine wpAnyH_take (i := 14) (v := .bool true) rfl (by kernel_rfl) (by kernel_rfl) (by kernel_rfl) (fun _ _ _ h => h) (.inl ⟨by kernel_rfl, fun u _ => exec_eql _ _ _ _ u R rfl (by kernel_rfl) (by kernel_rfl)⟩) hS4 ?_
            refine wpAnyH_take (i := 15) (v := .bool true) rfl (by kernel_rfl) (by kernel_rfl) (by kernel_rfl) (fun _ _ _ h => h) (.inl ⟨by kernel_rfl, fun u _ => by kernel_rfl⟩) hS4 ?_
            refine wpAnyH_take (i := 16) (v := .bool true) rfl (by kernel_rfl) (by kernel_rfl) (by kernel_rfl) (fun _ _ _ h => h) (.inl ⟨by kernel_rfl, fun u _ => by kernel_rfl⟩) hS4 ?_
            refine wpAnyH_done (by kernel_rfl) ?_ _
            refine NoPanic.normal ?_
            go_wp2_with fail
            go_ret
            exact ⟨by kernel_rfl, bthen hB2 hS4⟩
end Go.Proofs.Ytibjiadgmlpceaa
