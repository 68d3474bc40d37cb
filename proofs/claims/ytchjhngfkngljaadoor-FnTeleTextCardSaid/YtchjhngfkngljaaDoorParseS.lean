/- The text of a machine is parsed: spec.ParseTele returns what the plain function says. No condition. -/
import Derived.Test.YtchjhngfkngljaaDoorParse0
import Derived.BigQuiet
import Derived.Deep.QuietTactic
set_option linter.unusedVariables false
namespace Go.Proofs.YtchjhngfkngljaaDoor
open Go.RowKit

/-- The call at a step of a region. -/
theorem op_callS {ops : Array Oper} {Q : Exit → Act → World → Prop} {n : Nat} {o : Oper} {a : Act} {w : World} {K : Act → World → Prop} {v1 : Value} {R : Ending → World → Prop} {i : Nat} (hn : ops[n]? = some o)
    (ho : o.op = .call { callee := .value (.func 26), args := #[.tmp i, .const (.int .u8 32)], argTypes := #[9, 5] }) (hw : Region.wanted o (yielded ops a.tmps) = true) (hx : a.tmps[i]?.getD undef = v1)
    (hc : Calls Tryd.prog 26 #[v1, .int .u8 32] w R) (h : ∀ e w', R e w' → ∃ v, e = .returned v ∧ K (a.put o.dst v) w') : wpOp Tryd.prog ops Q n K a w := by
  refine wpOp_want hn hw fun K' hK' => ?_
  have HH : Hid (∀ e w', R e w' → ∃ v, e = .returned v ∧ K' (a.put o.dst v) w') := fun e w' hR => by
    obtain ⟨v, e1, h1⟩ := h e w' hR
    exact ⟨v, e1, hK' _ _ h1⟩
  have HC := Lib.hid hc
  clear h hc hK'
  unfold Oper.wp execOp
  simp only [ho]
  go_simp
  refine HC.out.mono ?_
  intro e w' hR
  obtain ⟨v, rfl, hK⟩ := HH.out e w' hR
  exact hK
set_option maxHeartbeats 4000000 in
theorem spec_ParseTele (s : ByteArray) (w : World) (hs : s.size ≤ 1048576) :
    Calls Tryd.prog 12 #[.string s] w (PtP w (nb s)) := by
  have hb0 := belA w (.cells #[.slice none 0 0, .slice none 0 0, .string ⟨#[]⟩] 25)
  have hz0 := zbox w
  go_enter Tryd.func12, Tryd.ntmps12
  go_wp2_with fail
  refine (spec_l21Cut s 47 _ hs).mono ?_
  rintro e v1 ⟨G, cap, zs, rfl, hzs, hown, hcap, hb1⟩
  have hB1 := bthen hb0 hb1
  have hz1 := hz0.next hb1
  have hgt : w.heap.size < v1.heap.size := hz1.lt
  by_cases h3 : zs.length = 3
  · obtain ⟨p0, p1, p2, rfl⟩ := three_of h3
    rcases hown with hown | ⟨gz, rfl, hz1', hz2', hbz⟩
    · cases hown
    have l0 := piece_le hzs p0 (by simp)
    have l1 := piece_le hzs p1 (by simp)
    have l2 := piece_le hzs p2 (by simp)
    have l0' : p0.size ≤ 1048576 := by omega
    have l1' : p1.size ≤ 1048576 := by omega
    have l2' : p2.size ≤ 1048576 := by omega
    have HZ := Lib.hid (And.intro hz1 (And.intro hbz (And.intro hB1 hzs)))
    have hsz1 := hB1.size
    clear hz0 hz1 hbz hb0 hb1 hzs hz1' hz2' hB1
    go_wp2_with fail
    refine wp_region_noPanic ?_
    refine wp_region_held (S := fun u => Below v1.heap.size v1 u) (by kernel_rfl) ?_
    have hS0 : Below v1.heap.size v1 { v1 with drawn := v1.drawn + 1 } := (Below.refl _ _).drew
    refine wpAnyH_take (i := 0) (v := .slice (some ⟨gz, 0, none⟩) 3 cap) rfl (by kernel_rfl) (by kernel_rfl) (by kernel_rfl) (fun _ _ _ h => h) (.inl ⟨by kernel_rfl, fun u hu => by kernel_rfl⟩) hS0 ?_
    refine wpAnyH_take (i := 1) (v := .pointer (some ⟨gz, 0, none⟩)) rfl (by kernel_rfl) (by kernel_rfl) (by kernel_rfl) (fun _ _ _ h => h) (.inl ⟨by kernel_rfl, fun u hu => exec_idx0 _ _ _ u gz 0 3 cap rfl (by kernel_rfl) (by decide) (by kernel_rfl)⟩) hS0 ?_
    refine wpAnyH_take (i := 2) (v := .string p0) rfl (by kernel_rfl) (by kernel_rfl) (by kernel_rfl) (fun _ _ _ h => h) (.inl ⟨by kernel_rfl, fun u hu => exec_loadT _ _ _ u _ _ rfl (by kernel_rfl) ((HZ.out.2.1.next hu).cell (j := 0) rfl)⟩) hS0 ?_
    refine wpAnyH_take (i := 4) (v := .slice (some ⟨gz, 0, none⟩) 3 cap) rfl (by kernel_rfl) (by kernel_rfl) (by kernel_rfl) (fun _ _ _ h => h) (.inl ⟨by kernel_rfl, fun u hu => by kernel_rfl⟩) hS0 ?_
    refine wpAnyH_take (i := 5) (v := .pointer (some ⟨gz, 0 + 1, none⟩)) rfl (by kernel_rfl) (by kernel_rfl) (by kernel_rfl) (fun _ _ _ h => h) (.inl ⟨by kernel_rfl, fun u hu => exec_idx1 _ _ _ u gz 0 3 cap rfl (by kernel_rfl) (by decide) (by kernel_rfl)⟩) hS0 ?_
    refine wpAnyH_take (i := 6) (v := .string p1) rfl (by kernel_rfl) (by kernel_rfl) (by kernel_rfl) (fun _ _ _ h => h) (.inl ⟨by kernel_rfl, fun u hu => exec_loadT _ _ _ u _ _ rfl (by kernel_rfl) ((HZ.out.2.1.next hu).cell (j := 1) rfl)⟩) hS0 ?_
    refine wpAnyH_take (i := 8) (v := .slice (some ⟨gz, 0, none⟩) 3 cap) rfl (by kernel_rfl) (by kernel_rfl) (by kernel_rfl) (fun _ _ _ h => h) (.inl ⟨by kernel_rfl, fun u hu => by kernel_rfl⟩) hS0 ?_
    refine wpAnyH_take (i := 9) (v := .pointer (some ⟨gz, 0 + 2, none⟩)) rfl (by kernel_rfl) (by kernel_rfl) (by kernel_rfl) (fun _ _ _ h => h) (.inl ⟨by kernel_rfl, fun u hu => exec_idx2 _ _ _ u gz 0 3 cap rfl (by kernel_rfl) (by decide) (by kernel_rfl)⟩) hS0 ?_
    refine wpAnyH_take (i := 10) (v := .string p2) rfl (by kernel_rfl) (by kernel_rfl) (by kernel_rfl) (fun _ _ _ h => h) (.inl ⟨by kernel_rfl, fun u hu => exec_loadT _ _ _ u _ _ rfl (by kernel_rfl) ((HZ.out.2.1.next hu).cell (j := 2) rfl)⟩) hS0 ?_
    refine wpAnyH_or (n := 3) (m := 12) (by kernel_rfl) ?_ ?_
    · refine op_callS (n := 3) (i := 14) (v1 := .string p0) rfl rfl (by kernel_rfl) (by kernel_rfl) (spec_l21Cut p0 32 _ l0') ?_
      rintro e u1 ⟨A, c, chi, rfl, hchi, hA1, kchi, bu1⟩
      have hS1 := bthen hS0 bu1
      refine ⟨_, rfl, hS1, ?_⟩
      refine wpAnyH_or (n := 7) (m := 12) (by kernel_rfl) ?_ ?_
      · refine op_callS (n := 7) (i := 18) (v1 := .string p1) rfl rfl (by kernel_rfl) (by kernel_rfl) (spec_l21Cut p1 32 _ l1') ?_
        rintro e u2 ⟨B, d, psi, rfl, hpsi, hB2, kpsi, bu2⟩
        have hS2 := bthen hS1 bu2
        refine ⟨_, rfl, hS2, ?_⟩
        refine wpAnyH_take (i := 11) (v := .agg #[.slice A chi.length c, .slice B psi.length d, .string p2]) rfl (by kernel_rfl) (by kernel_rfl) (by kernel_rfl) (fun _ _ _ h => h) (.inl ⟨by kernel_rfl, fun u hu => by kernel_rfl⟩) hS2 ?_
        refine wpAnyH_one (n := 12) (by kernel_rfl) ?_
        refine op_alloc (n := 12) rfl rfl (by kernel_rfl) ?_
        intro u3 hT3 zu3 bu3
        have hS3 := bthen hS2 bu3
        refine ⟨hS3, ?_⟩
        refine wpAnyH_one (n := 13) (by kernel_rfl) ?_
        refine op_store (n := 13) (i := 5) (j := 23) (g := u2.heap.size) (A := A) (k := chi.length) (c := c) (B := B) (m := psi.length) (d := d) (mo := p2) rfl rfl rfl (by kernel_rfl) (by kernel_rfl) (by kernel_rfl) hT3 ?_
        intro u4 hT4 zu4 ku4
        have hA4 := ((hA1.next bu2).next bu3).kept ku4 (.inl (by have := bu2.size; omega))
        have hB4 := (hB2.next bu3).kept ku4 (.inl (Nat.le_refl _))
        have hS4 : Below v1.heap.size v1 u4 := hS3.trans (ku4.bel (by have := hS2.size; omega) (by have := hS3.size; omega))
        refine ⟨hS4, ?_⟩
        refine wpAnyH_done (by kernel_rfl) ?_ _
        refine NoPanic.normal ?_
        obtain ⟨lo, mid, hA5, hB5, j1, j2, j3, j4⟩ : ∃ lo mid, SOwn u4 lo mid A chi ∧ SOwn u4 mid u4.heap.size B psi ∧ v1.heap.size ≤ lo ∧ lo ≤ mid ∧ mid ≤ u4.heap.size ∧ v1.heap.size ≤ u2.heap.size := ⟨v1.heap.size, u1.heap.size, hA4, hB4.wider (Nat.le_refl _) (by have := bu3.size; omega), Nat.le_refl _, hS1.size, by have := hS3.size; have := bu2.size; have := bu3.size; omega, hS2.size⟩
        have HT := Lib.hid (And.intro hA5 (And.intro hB5 hS4))
        have HM := Lib.hid (mach_own (s := s) (mo := p2) hA5 hB5 hchi hpsi l0' l1' l2' (cut_lenB hchi l0') (cut_lenB hpsi l1'))
        have hz4 := HZ.out.1.next hS4
        have HV := Lib.hid (And.intro hchi hpsi)
        have HT4 := Lib.hid hT4
        have q0 : u4.cell? ⟨u2.heap.size, 0, none⟩ = some (.slice A chi.length c) := hT4.cell (j := 0) rfl
        have q1 : u4.cell? ⟨u2.heap.size, 1, none⟩ = some (.slice B psi.length d) := hT4.cell (j := 1) rfl
        have q2 : u4.cell? ⟨u2.heap.size, 2, none⟩ = some (.string p2) := hT4.cell (j := 2) rfl
        have HZ4 := Lib.hid hz4
        clear hA4 hB4 hA5 hB5 hchi hpsi hz4 hT4
        go_wp2_with fail
        refine (spec_FormatTele _ _ _ _ _ _ chi psi p2 _ HM.out).mono ?_
        rintro e v5 ⟨r, rfl, hr, hb5⟩
        have HR := Lib.hid hr
        clear hr
        have r5 := HZ4.out.next hb5
        have t5 := HT4.out.next hb5
        have z5 := hb5.size
        have HB5 := Lib.hid (bthen (HZ.out.2.2.1) (HT.out.2.2.trans (hb5.mono (by have := HT.out.2.2.size; omega))))
        have HO5 := Lib.hid (And.intro (HT.out.1.next hb5) ((HT.out.2.1.next hb5).wider (Nat.le_refl _) z5))
        have R5 := Lib.hid r5
        have c0 : v5.cell? ⟨w.heap.size, 0, none⟩ = some (.slice none 0 0) := r5.cell (j := 0) rfl
        have c1 : v5.cell? ⟨w.heap.size, 1, none⟩ = some (.slice none 0 0) := r5.cell (j := 1) rfl
        have c2 : v5.cell? ⟨w.heap.size, 2, none⟩ = some (.string ⟨#[]⟩) := r5.cell (j := 2) rfl
        have f0 := r5.free (j := 0) (by decide)
        have f1 := r5.free (j := 1) (by decide)
        have f2 := r5.free (j := 2) (by decide)
        have hv0 := pt_valid HZ.out.2.2.2 HV.out.1 HV.out.2
        have HV0 := Lib.hid hv0
        clear q0 q1 q2 hv0
        cases hv : tvld chi psi p2
        · have hne : r ≠ s := fun e => ft_no HZ.out.2.2.2 hv (by rw [← HR.out, e])
          have e0 : (r.toList == s.toList) = false := beq_noT hne
          clear t5 r5 hb5 hne
          go_wp2_with fail
          obtain ⟨e1, e2, e3, e4, e5, e6, e7⟩ := res_fin (w := w) (A := none) (B := none) (c := 0) (d := 0) (n := 0) (m := 0) (mo := ⟨#[]⟩) (chi := []) (psi := []) (lo := v5.heap.size) (mid := v5.heap.size) R5.out (.inl rfl) (.inl rfl) (by omega) (Nat.le_refl _) (Nat.le_refl _) (Nat.le_refl _) HB5.out (.slice none 0 0) (.slice none 0 0) (.string ⟨#[]⟩) rfl
          exact bodyPost_ret (v := .tuple #[.agg #[.slice none 0 0, .slice none 0 0, .string ⟨#[]⟩], .bool false]) (by simp [results, Tryd.results12, go_sem, e5, e6, e7]) rfl ⟨none, 0, none, 0, v5.heap.size, [], [], ByteArray.empty, by rw [HV0.out, hv]; rfl, Nat.le_refl _, Nat.le_refl _, e1, e2, by omega, e3, PtV.no (by rw [HV0.out, hv]), e4⟩
        · obtain rfl : r = s := nb_inj (by rw [HR.out, ft_pt HZ.out.2.2.2 HV.out.1 HV.out.2 hv])
          have q0 : v5.cell? ⟨u2.heap.size, 0, none⟩ = some (.slice A chi.length c) := t5.cell (j := 0) rfl
          have q1 : v5.cell? ⟨u2.heap.size, 1, none⟩ = some (.slice B psi.length d) := t5.cell (j := 1) rfl
          have q2 : v5.cell? ⟨u2.heap.size, 2, none⟩ = some (.string p2) := t5.cell (j := 2) rfl
          clear t5 r5 hb5
          go_wp2_with fail
          obtain ⟨e1, e2, e3, e4, e5, e6, e7⟩ := res_fin (w := w) (c := c) (d := d) (n := chi.length) (m := psi.length) (mo := p2) R5.out HO5.out.1 HO5.out.2 (by omega) (by omega) (by omega) (Nat.le_refl _) HB5.out (.slice A chi.length c) (.slice B psi.length d) (.string p2) rfl
          exact bodyPost_ret (v := .tuple #[.agg #[.slice A chi.length c, .slice B psi.length d, .string p2], .bool true]) (by simp [results, Tryd.results12, go_sem, e5, e6, e7]) rfl ⟨A, c, B, d, mid, chi, psi, p2, by rw [HV0.out, hv], kchi, kpsi, e1, e2, by omega, e3, PtV.yes HZ.out.2.2.2 HV.out.1 HV.out.2 hv, e4⟩
      · refine op_alloc (n := 12) rfl rfl (by kernel_rfl) ?_
        intro u2 hT2 zu2 bu2
        have hS2 := bthen hS1 bu2
        refine ⟨hS2, ?_⟩
        refine wpAnyH_one (n := 7) (by kernel_rfl) ?_
        refine op_callS (n := 7) (i := 18) (v1 := .string p1) rfl rfl (by kernel_rfl) (by kernel_rfl) (spec_l21Cut p1 32 _ l1') ?_
        rintro e u3 ⟨B, d, psi, rfl, hpsi, hB3, kpsi, bu3⟩
        have hS3 := bthen hS2 bu3
        refine ⟨_, rfl, hS3, ?_⟩
        refine wpAnyH_take (i := 11) (v := .agg #[.slice A chi.length c, .slice B psi.length d, .string p2]) rfl (by kernel_rfl) (by kernel_rfl) (by kernel_rfl) (fun _ _ _ h => h) (.inl ⟨by kernel_rfl, fun u hu => by kernel_rfl⟩) hS3 ?_
        refine wpAnyH_one (n := 13) (by kernel_rfl) ?_
        refine op_store (n := 13) (i := 5) (j := 23) (g := u1.heap.size) (A := A) (k := chi.length) (c := c) (B := B) (m := psi.length) (d := d) (mo := p2) rfl rfl rfl (by kernel_rfl) (by kernel_rfl) (by kernel_rfl) (hT2.next bu3) ?_
        intro u4 hT4 zu4 ku4
        have hA4 := ((hA1.next bu2).next bu3).kept ku4 (.inl (Nat.le_refl _))
        have hB4 := hB3.kept ku4 (.inr (by omega))
        have hS4 : Below v1.heap.size v1 u4 := hS3.trans (ku4.bel (by have := hS1.size; omega) (by have := hS3.size; omega))
        refine ⟨hS4, ?_⟩
        refine wpAnyH_done (by kernel_rfl) ?_ _
        refine NoPanic.normal ?_
        obtain ⟨lo, mid, hA5, hB5, j1, j2, j3, j4⟩ : ∃ lo mid, SOwn u4 lo mid A chi ∧ SOwn u4 mid u4.heap.size B psi ∧ v1.heap.size ≤ lo ∧ lo ≤ mid ∧ mid ≤ u4.heap.size ∧ v1.heap.size ≤ u1.heap.size := ⟨v1.heap.size, u2.heap.size, hA4.wider (Nat.le_refl _) bu2.size, hB4.wider (Nat.le_refl _) (by omega), Nat.le_refl _, hS2.size, by have := bu3.size; omega, hS1.size⟩
        have HT := Lib.hid (And.intro hA5 (And.intro hB5 hS4))
        have HM := Lib.hid (mach_own (s := s) (mo := p2) hA5 hB5 hchi hpsi l0' l1' l2' (cut_lenB hchi l0') (cut_lenB hpsi l1'))
        have hz4 := HZ.out.1.next hS4
        have HV := Lib.hid (And.intro hchi hpsi)
        have HT4 := Lib.hid hT4
        have q0 : u4.cell? ⟨u1.heap.size, 0, none⟩ = some (.slice A chi.length c) := hT4.cell (j := 0) rfl
        have q1 : u4.cell? ⟨u1.heap.size, 1, none⟩ = some (.slice B psi.length d) := hT4.cell (j := 1) rfl
        have q2 : u4.cell? ⟨u1.heap.size, 2, none⟩ = some (.string p2) := hT4.cell (j := 2) rfl
        have HZ4 := Lib.hid hz4
        clear hA4 hB4 hA5 hB5 hchi hpsi hz4 hT4
        go_wp2_with fail
        refine (spec_FormatTele _ _ _ _ _ _ chi psi p2 _ HM.out).mono ?_
        rintro e v5 ⟨r, rfl, hr, hb5⟩
        have HR := Lib.hid hr
        clear hr
        have r5 := HZ4.out.next hb5
        have t5 := HT4.out.next hb5
        have z5 := hb5.size
        have HB5 := Lib.hid (bthen (HZ.out.2.2.1) (HT.out.2.2.trans (hb5.mono (by have := HT.out.2.2.size; omega))))
        have HO5 := Lib.hid (And.intro (HT.out.1.next hb5) ((HT.out.2.1.next hb5).wider (Nat.le_refl _) z5))
        have R5 := Lib.hid r5
        have c0 : v5.cell? ⟨w.heap.size, 0, none⟩ = some (.slice none 0 0) := r5.cell (j := 0) rfl
        have c1 : v5.cell? ⟨w.heap.size, 1, none⟩ = some (.slice none 0 0) := r5.cell (j := 1) rfl
        have c2 : v5.cell? ⟨w.heap.size, 2, none⟩ = some (.string ⟨#[]⟩) := r5.cell (j := 2) rfl
        have f0 := r5.free (j := 0) (by decide)
        have f1 := r5.free (j := 1) (by decide)
        have f2 := r5.free (j := 2) (by decide)
        have hv0 := pt_valid HZ.out.2.2.2 HV.out.1 HV.out.2
        have HV0 := Lib.hid hv0
        clear q0 q1 q2 hv0
        cases hv : tvld chi psi p2
        · have hne : r ≠ s := fun e => ft_no HZ.out.2.2.2 hv (by rw [← HR.out, e])
          have e0 : (r.toList == s.toList) = false := beq_noT hne
          clear t5 r5 hb5 hne
          go_wp2_with fail
          obtain ⟨e1, e2, e3, e4, e5, e6, e7⟩ := res_fin (w := w) (A := none) (B := none) (c := 0) (d := 0) (n := 0) (m := 0) (mo := ⟨#[]⟩) (chi := []) (psi := []) (lo := v5.heap.size) (mid := v5.heap.size) R5.out (.inl rfl) (.inl rfl) (by omega) (Nat.le_refl _) (Nat.le_refl _) (Nat.le_refl _) HB5.out (.slice none 0 0) (.slice none 0 0) (.string ⟨#[]⟩) rfl
          exact bodyPost_ret (v := .tuple #[.agg #[.slice none 0 0, .slice none 0 0, .string ⟨#[]⟩], .bool false]) (by simp [results, Tryd.results12, go_sem, e5, e6, e7]) rfl ⟨none, 0, none, 0, v5.heap.size, [], [], ByteArray.empty, by rw [HV0.out, hv]; rfl, Nat.le_refl _, Nat.le_refl _, e1, e2, by omega, e3, PtV.no (by rw [HV0.out, hv]), e4⟩
        · obtain rfl : r = s := nb_inj (by rw [HR.out, ft_pt HZ.out.2.2.2 HV.out.1 HV.out.2 hv])
          have q0 : v5.cell? ⟨u1.heap.size, 0, none⟩ = some (.slice A chi.length c) := t5.cell (j := 0) rfl
          have q1 : v5.cell? ⟨u1.heap.size, 1, none⟩ = some (.slice B psi.length d) := t5.cell (j := 1) rfl
          have q2 : v5.cell? ⟨u1.heap.size, 2, none⟩ = some (.string p2) := t5.cell (j := 2) rfl
          clear t5 r5 hb5
          go_wp2_with fail
          obtain ⟨e1, e2, e3, e4, e5, e6, e7⟩ := res_fin (w := w) (c := c) (d := d) (n := chi.length) (m := psi.length) (mo := p2) R5.out HO5.out.1 HO5.out.2 (by omega) (by omega) (by omega) (Nat.le_refl _) HB5.out (.slice A chi.length c) (.slice B psi.length d) (.string p2) rfl
          exact bodyPost_ret (v := .tuple #[.agg #[.slice A chi.length c, .slice B psi.length d, .string p2], .bool true]) (by simp [results, Tryd.results12, go_sem, e5, e6, e7]) rfl ⟨A, c, B, d, mid, chi, psi, p2, by rw [HV0.out, hv], kchi, kpsi, e1, e2, by omega, e3, PtV.yes HZ.out.2.2.2 HV.out.1 HV.out.2 hv, e4⟩
    · refine op_alloc (n := 12) rfl rfl (by kernel_rfl) ?_
      intro u1 hT1 zu1 bu1
      have hS1 := bthen hS0 bu1
      refine ⟨hS1, ?_⟩
      refine wpAnyH_one (n := 3) (by kernel_rfl) ?_
      refine op_callS (n := 3) (i := 14) (v1 := .string p0) rfl rfl (by kernel_rfl) (by kernel_rfl) (spec_l21Cut p0 32 _ l0') ?_
      rintro e u2 ⟨A, c, chi, rfl, hchi, hA2, kchi, bu2⟩
      have hS2 := bthen hS1 bu2
      refine ⟨_, rfl, hS2, ?_⟩
      refine wpAnyH_one (n := 7) (by kernel_rfl) ?_
      refine op_callS (n := 7) (i := 18) (v1 := .string p1) rfl rfl (by kernel_rfl) (by kernel_rfl) (spec_l21Cut p1 32 _ l1') ?_
      rintro e u3 ⟨B, d, psi, rfl, hpsi, hB3, kpsi, bu3⟩
      have hS3 := bthen hS2 bu3
      refine ⟨_, rfl, hS3, ?_⟩
      refine wpAnyH_take (i := 11) (v := .agg #[.slice A chi.length c, .slice B psi.length d, .string p2]) rfl (by kernel_rfl) (by kernel_rfl) (by kernel_rfl) (fun _ _ _ h => h) (.inl ⟨by kernel_rfl, fun u hu => by kernel_rfl⟩) hS3 ?_
      refine wpAnyH_one (n := 13) (by kernel_rfl) ?_
      refine op_store (n := 13) (i := 5) (j := 23) (g := v1.heap.size) (A := A) (k := chi.length) (c := c) (B := B) (m := psi.length) (d := d) (mo := p2) rfl rfl rfl (by kernel_rfl) (by kernel_rfl) (by kernel_rfl) ((hT1.next bu2).next bu3) ?_
      intro u4 hT4 zu4 ku4
      have hA4 := (hA2.next bu3).kept ku4 (.inr (by have e : ({ v1 with drawn := v1.drawn + 1 } : World).heap.size = v1.heap.size := rfl; omega))
      have hB4 := hB3.kept ku4 (.inr (by have e : ({ v1 with drawn := v1.drawn + 1 } : World).heap.size = v1.heap.size := rfl; have := bu2.size; omega))
      have hS4 : Below v1.heap.size v1 u4 := hS3.trans (ku4.bel (by have := hS0.size; omega) (by have := hS3.size; omega))
      refine ⟨hS4, ?_⟩
      refine wpAnyH_done (by kernel_rfl) ?_ _
      refine NoPanic.normal ?_
      obtain ⟨lo, mid, hA5, hB5, j1, j2, j3, j4⟩ : ∃ lo mid, SOwn u4 lo mid A chi ∧ SOwn u4 mid u4.heap.size B psi ∧ v1.heap.size ≤ lo ∧ lo ≤ mid ∧ mid ≤ u4.heap.size ∧ v1.heap.size ≤ v1.heap.size := ⟨u1.heap.size, u2.heap.size, hA4, hB4.wider (Nat.le_refl _) (by omega), hS1.size, bu2.size, by have := bu3.size; omega, Nat.le_refl _⟩
      have HT := Lib.hid (And.intro hA5 (And.intro hB5 hS4))
      have HM := Lib.hid (mach_own (s := s) (mo := p2) hA5 hB5 hchi hpsi l0' l1' l2' (cut_lenB hchi l0') (cut_lenB hpsi l1'))
      have hz4 := HZ.out.1.next hS4
      have HV := Lib.hid (And.intro hchi hpsi)
      have HT4 := Lib.hid hT4
      have q0 : u4.cell? ⟨v1.heap.size, 0, none⟩ = some (.slice A chi.length c) := hT4.cell (j := 0) rfl
      have q1 : u4.cell? ⟨v1.heap.size, 1, none⟩ = some (.slice B psi.length d) := hT4.cell (j := 1) rfl
      have q2 : u4.cell? ⟨v1.heap.size, 2, none⟩ = some (.string p2) := hT4.cell (j := 2) rfl
      have HZ4 := Lib.hid hz4
      clear hA4 hB4 hA5 hB5 hchi hpsi hz4 hT4
      go_wp2_with fail
      refine (spec_FormatTele _ _ _ _ _ _ chi psi p2 _ HM.out).mono ?_
      rintro e v5 ⟨r, rfl, hr, hb5⟩
      have HR := Lib.hid hr
      clear hr
      have r5 := HZ4.out.next hb5
      have t5 := HT4.out.next hb5
      have z5 := hb5.size
      have HB5 := Lib.hid (bthen (HZ.out.2.2.1) (HT.out.2.2.trans (hb5.mono (by have := HT.out.2.2.size; omega))))
      have HO5 := Lib.hid (And.intro (HT.out.1.next hb5) ((HT.out.2.1.next hb5).wider (Nat.le_refl _) z5))
      have R5 := Lib.hid r5
      have c0 : v5.cell? ⟨w.heap.size, 0, none⟩ = some (.slice none 0 0) := r5.cell (j := 0) rfl
      have c1 : v5.cell? ⟨w.heap.size, 1, none⟩ = some (.slice none 0 0) := r5.cell (j := 1) rfl
      have c2 : v5.cell? ⟨w.heap.size, 2, none⟩ = some (.string ⟨#[]⟩) := r5.cell (j := 2) rfl
      have f0 := r5.free (j := 0) (by decide)
      have f1 := r5.free (j := 1) (by decide)
      have f2 := r5.free (j := 2) (by decide)
      have hv0 := pt_valid HZ.out.2.2.2 HV.out.1 HV.out.2
      have HV0 := Lib.hid hv0
      clear q0 q1 q2 hv0
      cases hv : tvld chi psi p2
      · have hne : r ≠ s := fun e => ft_no HZ.out.2.2.2 hv (by rw [← HR.out, e])
        have e0 : (r.toList == s.toList) = false := beq_noT hne
        clear t5 r5 hb5 hne
        go_wp2_with fail
        obtain ⟨e1, e2, e3, e4, e5, e6, e7⟩ := res_fin (w := w) (A := none) (B := none) (c := 0) (d := 0) (n := 0) (m := 0) (mo := ⟨#[]⟩) (chi := []) (psi := []) (lo := v5.heap.size) (mid := v5.heap.size) R5.out (.inl rfl) (.inl rfl) (by omega) (Nat.le_refl _) (Nat.le_refl _) (Nat.le_refl _) HB5.out (.slice none 0 0) (.slice none 0 0) (.string ⟨#[]⟩) rfl
        exact bodyPost_ret (v := .tuple #[.agg #[.slice none 0 0, .slice none 0 0, .string ⟨#[]⟩], .bool false]) (by simp [results, Tryd.results12, go_sem, e5, e6, e7]) rfl ⟨none, 0, none, 0, v5.heap.size, [], [], ByteArray.empty, by rw [HV0.out, hv]; rfl, Nat.le_refl _, Nat.le_refl _, e1, e2, by omega, e3, PtV.no (by rw [HV0.out, hv]), e4⟩
      · obtain rfl : r = s := nb_inj (by rw [HR.out, ft_pt HZ.out.2.2.2 HV.out.1 HV.out.2 hv])
        have q0 : v5.cell? ⟨v1.heap.size, 0, none⟩ = some (.slice A chi.length c) := t5.cell (j := 0) rfl
        have q1 : v5.cell? ⟨v1.heap.size, 1, none⟩ = some (.slice B psi.length d) := t5.cell (j := 1) rfl
        have q2 : v5.cell? ⟨v1.heap.size, 2, none⟩ = some (.string p2) := t5.cell (j := 2) rfl
        clear t5 r5 hb5
        go_wp2_with fail
        obtain ⟨e1, e2, e3, e4, e5, e6, e7⟩ := res_fin (w := w) (c := c) (d := d) (n := chi.length) (m := psi.length) (mo := p2) R5.out HO5.out.1 HO5.out.2 (by omega) (by omega) (by omega) (Nat.le_refl _) HB5.out (.slice A chi.length c) (.slice B psi.length d) (.string p2) rfl
        exact bodyPost_ret (v := .tuple #[.agg #[.slice A chi.length c, .slice B psi.length d, .string p2], .bool true]) (by simp [results, Tryd.results12, go_sem, e5, e6, e7]) rfl ⟨A, c, B, d, mid, chi, psi, p2, by rw [HV0.out, hv], kchi, kpsi, e1, e2, by omega, e3, PtV.yes HZ.out.2.2.2 HV.out.1 HV.out.2 hv, e4⟩
  · have b3 := ne3 h3
    have hk : ptOk (nb s) = false := pt_short (by rw [← hzs, List.length_map]; exact h3)
    have c0 : v1.cell? ⟨w.heap.size, 0, none⟩ = some (.slice none 0 0) := hz1.cell (j := 0) rfl
    have c1 : v1.cell? ⟨w.heap.size, 1, none⟩ = some (.slice none 0 0) := hz1.cell (j := 1) rfl
    have c2 : v1.cell? ⟨w.heap.size, 2, none⟩ = some (.string ⟨#[]⟩) := hz1.cell (j := 2) rfl
    have f0 := hz1.free (j := 0) (by decide)
    have f1 := hz1.free (j := 1) (by decide)
    have f2 := hz1.free (j := 2) (by decide)
    have HZ := Lib.hid (And.intro hz1 (And.intro hB1 hk))
    clear hz0 hz1 hown hb0 hb1 hzs hk hB1 h3
    go_wp2_with fail
    obtain ⟨e1, e2, e3, e4, e5, e6, e7⟩ := res_fin (w := w) (A := none) (B := none) (c := 0) (d := 0) (n := 0) (m := 0) (mo := ⟨#[]⟩) (chi := []) (psi := []) (lo := v1.heap.size) (mid := v1.heap.size) HZ.out.1 (.inl rfl) (.inl rfl) hgt (Nat.le_refl _) (Nat.le_refl _) (Nat.le_refl _) HZ.out.2.1 (.slice none 0 0) (.slice none 0 0) (.string ⟨#[]⟩) rfl
    exact bodyPost_ret (v := .tuple #[.agg #[.slice none 0 0, .slice none 0 0, .string ⟨#[]⟩], .bool false]) (by simp [results, Tryd.results12, go_sem, e5, e6, e7]) rfl ⟨none, 0, none, 0, v1.heap.size, [], [], ByteArray.empty, by rw [HZ.out.2.2]; rfl, Nat.le_refl _, Nat.le_refl _, e1, e2, Nat.le_of_lt hgt, e3, PtV.no HZ.out.2.2, e4⟩
end Go.Proofs.YtchjhngfkngljaaDoor
