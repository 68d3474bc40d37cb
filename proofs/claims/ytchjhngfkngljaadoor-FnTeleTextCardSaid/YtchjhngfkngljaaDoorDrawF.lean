/- The draws of the laws on the text of a machine, and the comparison of two machines. No condition. -/
import Derived.Test.YtchjhngfkngljaaDoorDrawT4
import Derived.Test.YtchjhngfkngljaaDoorDrawW
import Derived.Test.YtchjhngfkngljaaDoorFmt
import Derived.Test.YtchjhngfkngljaaDoorParse0
set_option linter.unusedVariables false
namespace Go.Proofs.YtchjhngfkngljaaDoor
open Go.RowKit

/-- A machine of the call's own. -/
def RetMC (w : World) (e : Ending) (w' : World) : Prop :=
  ∃ (A : Option Addr) (n c : Nat) (B : Option Addr) (m d : Nat) (mo : ByteArray) (chi psi : List ByteArray), e = .returned (.agg #[.slice A n c, .slice B m d, .string mo]) ∧ MO w' w.heap.size A n B m chi psi mo ∧ n ≤ c ∧ m ≤ d ∧ Below w.heap.size w w'
set_option maxHeartbeats 1000000 in
theorem spec_DrawFormatTele (a : Option Addr) (len cap : Nat) (zs : List Int) (w : World) (h : IsRow .u8 w a len cap zs) :
    Calls Tryd.prog 5 #[.slice a len cap] w (RetMC w) := by
  have hb0 := belA w (.cells #[.slice none 0 0, .slice none 0 0, .string ⟨#[]⟩] 25)
  have hz0 := zboxD w
  have H := Lib.hid (h.next hb0)
  clear h
  go_enter Tryd.func5, Tryd.ntmps5
  go_wp2_with fail
  refine (spec_l21Open _ _ _ _ _ H.out).mono ?_
  rintro e v1 ⟨rfl, hr1, hb1⟩
  have hz1 := hz0.next hb1
  have hB1 := bthen hb0 hb1
  rw [sz_alloc] at hr1
  have hs1 : (w.alloc (.cells #[.slice none 0 0, .slice none 0 0, .string ⟨#[]⟩] 25)).heap.size = w.heap.size + 1 := sz_alloc _ _
  have hgl := hr1.lt
  clear hz0 hb0 hb1
  go_wp2_with fail
  refine (spec_l16Open _ 0 _ hr1 (by omega)).mono ?_
  rintro e v2 ⟨A, n, c, B, m, d, mo, chi, psi, p2, rfl, o1, o2, l1, l2, hn, hm, sa, sb, sm, hp2, hr2, hg2⟩
  have hM2 : MO v2 v1.heap.size A n B m chi psi mo := ⟨⟨_, o1⟩, ⟨_, o2⟩, l1, l2, hn.1, hm.1, sa, sb, sm⟩
  have hz2 := hz1.grown hg2 (by intro e; injection e with e; omega)
  have hB2 := Below.grown hB1 hg2 hB1.size (fun k hk => by injection hk with hk; omega)
  have hs2 := hg2.size
  have r0 := hz2.cell (j := 0) rfl
  have r1 := hz2.cell (j := 1) rfl
  have r2 := hz2.cell (j := 2) rfl
  have s0 := hz2.free (j := 0) (by simp)
  have s1 := hz2.free (j := 1) (by simp)
  have s2 := hz2.free (j := 2) (by simp)
  have hM4 := tri_mo (c := c) (d := d) (R := w.heap.size) hM2 (by omega)
  have hB4 := tri_bel hB2 A n c B m d mo
  have hR4 := tri_buf hz2 A n c B m d mo
  have HR := Lib.hid hR4
  have HH := Lib.hid (And.intro (hM4.less (lo' := w.heap.size) (by omega)) hB4)
  have Hn := Lib.hid (And.intro hn.2 hm.2)
  clear hz1 hz2 o1 o2 l1 l2 sa sb sm hM2 hr2 hM4 hB4 hR4 hB1 hB2 hg2 hn hm hr1
  go_wp2_with fail
  clear r0 r1 r2 s0 s1 s2
  have p0 := HR.out.cell (j := 0) rfl
  have p1 := HR.out.cell (j := 1) rfl
  have p2 := HR.out.cell (j := 2) rfl
  exact bodyPost_ret (v := .agg #[.slice A n c, .slice B m d, .string mo]) (by simp [results, Tryd.results5, go_sem, p0, p1, p2]) rfl ⟨A, n, c, B, m, d, mo, chi, psi, rfl, HH.out.1, Hn.out.1, Hn.out.2, HH.out.2⟩
theorem j3_len {ss : List ByteArray} (h : wheels3 ss = true) : (j3 ss).length ≤ 29 := by
  obtain ⟨x, y, z, rfl, hx, hy, hz⟩ := wheels3_yes h
  have lx := wheel_len hx
  have ly := wheel_len hy
  have lz := wheel_len hz
  simp only [j3, List.length_append, List.length_cons]
  omega
theorem ft_len {chi psi : List ByteArray} {mo : ByteArray} (h : tvld chi psi mo = true) : 1 ≤ (ftL chi psi mo).length ∧ (ftL chi psi mo).length ≤ 100 := by
  obtain ⟨h1, h2, h3⟩ := tvld_yes h
  have l1 := j3_len h1
  have l2 := j3_len h2
  have l3 := wheel_len h3
  rw [ftL, h, if_pos rfl]
  simp only [List.length_append, List.length_cons]
  omega
theorem wheels3_all {ss : List ByteArray} (hl : ss.length = 3) (h : ∀ s ∈ ss, wheel (nb s) = true) : wheels3 ss = true := by
  simp only [wheels3, Bool.and_eq_true, decide_eq_true_eq, List.all_eq_true]
  exact ⟨hl, h⟩
theorem wheel_small {s : ByteArray} (h : wheel (nb s) = true) : s.size ≤ maxLen := by
  have := (wheel_len h).2
  rw [nb_length] at this
  unfold maxLen
  omega
theorem exec_from (ρ : Operand → Value) (o : Oper) (x y : Operand) (w : World) (s : ByteArray) (K : Nat) (ho : o.op = .slice 9 x (some y) none none) (hx : ρ x = .string s) (hy : ρ y = .int .i64 (K : Int)) (hK : K ≤ s.size) :
    (execOp ρ o).run Tryd.prog w = .ok (.value (.string (s.extract K s.size))) w := by
  have hKi : (K : Int) ≤ (s.size : Int) := by omega
  have h0 : (0 : Int) ≤ (K : Int) := by omega
  unfold execOp
  rw [ho]
  go_simp
theorem exec_addI (ρ : Operand → Value) (o : Oper) (x y : Operand) (w : World) (a b : Nat) (ho : o.op = .binOp .add 3 x y 3) (hx : ρ x = .int .i64 (a : Int)) (hy : ρ y = .int .i64 (b : Int)) (hl : a + b ≤ 1000000) :
    (execOp ρ o).run Tryd.prog w = .ok (.value (.int .i64 ((a + b : Nat) : Int))) w := by
  have e : IntKind.i64.wrap ((a : Int) + (b : Int)) = (a : Int) + (b : Int) := IntWalk.i64_in _ (by omega)
  have e2 : ((a + b : Nat) : Int) = (a : Int) + (b : Int) := by omega
  rw [e2]
  unfold execOp
  rw [ho]
  go_simp
theorem op_build6 {ops : Array Oper} {Q : Exit → Act → World → Prop} {n : Nat} {o : Oper} {a : Act} {w : World} {K : Act → World → Prop} (hn : ops[n]? = some o)
    (ho : o.op = .buildSlice 23 6 #[(0, .const (.string ⟨#[]⟩)), (1, .const (.string ⟨#[49]⟩)), (2, .const (.string ⟨#[48]⟩)), (3, .const (.string ⟨#[32]⟩)), (4, .const (.string ⟨#[47]⟩)), (5, .const (.string ⟨#[50]⟩))]) (hw : Region.wanted o (yielded ops a.tmps) = true)
    (h : K (a.put o.dst (.slice (some ⟨w.heap.size, 0, none⟩) 6 6)) (w.alloc (.cells #[.string ⟨#[]⟩, .string ⟨#[49]⟩, .string ⟨#[48]⟩, .string ⟨#[32]⟩, .string ⟨#[47]⟩, .string ⟨#[50]⟩] 9))) : wpOp Tryd.prog ops Q n K a w := by
  refine wpOp_want hn hw fun K' hK' => ?_
  have hK := hK' _ _ h
  clear hK' h
  unfold Oper.wp execOp
  simp only [ho]
  go_simp
  exact hK
theorem op_callOf {ops : Array Oper} {Q : Exit → Act → World → Prop} {n : Nat} {o : Oper} {a : Act} {w : World} {K : Act → World → Prop} {v1 v2 : Value} {R : Ending → World → Prop} {i j : Nat} (hn : ops[n]? = some o)
    (ho : o.op = .call { callee := .value (.func 25), args := #[.tmp i, .tmp j], argTypes := #[37, 23] }) (hw : Region.wanted o (yielded ops a.tmps) = true) (hx : a.tmps[i]?.getD undef = v1) (hy : a.tmps[j]?.getD undef = v2)
    (hc : Calls Tryd.prog 25 #[v1, v2] w R) (h : ∀ e w', R e w' → ∃ v, e = .returned v ∧ K (a.put o.dst v) w') : wpOp Tryd.prog ops Q n K a w := by
  refine wpOp_want hn hw fun K' hK' => ?_
  have HH : Hid (∀ e w', R e w' → ∃ v, e = .returned v ∧ K' (a.put o.dst v) w') := fun e w' hR => by
    obtain ⟨v, e1, h1⟩ := h e w' hR
    exact ⟨v, e1, hK' _ _ h1⟩
  have HC := Lib.hid hc
  clear h hc hK'
  unfold Oper.wp execOp
  simp only [ho]
  go_simp
  refine HC.out.mono ?_
  intro e w' hR
  obtain ⟨v, rfl, hK⟩ := HH.out e w' hR
  exact hK
theorem op_callPick {ops : Array Oper} {Q : Exit → Act → World → Prop} {n : Nat} {o : Oper} {a : Act} {w : World} {K : Act → World → Prop} {v1 : Value} {R : Ending → World → Prop} {i : Nat} (hn : ops[n]? = some o)
    (ho : o.op = .call { callee := .value (.func 24), args := #[.tmp i, .const (.int .i64 2)], argTypes := #[37, 3] }) (hw : Region.wanted o (yielded ops a.tmps) = true) (hx : a.tmps[i]?.getD undef = v1)
    (hc : Calls Tryd.prog 24 #[v1, .int .i64 2] w R) (h : ∀ e w', R e w' → ∃ v, e = .returned v ∧ K (a.put o.dst v) w') : wpOp Tryd.prog ops Q n K a w := by
  refine wpOp_want hn hw fun K' hK' => ?_
  have HH : Hid (∀ e w', R e w' → ∃ v, e = .returned v ∧ K' (a.put o.dst v) w') := fun e w' hR => by
    obtain ⟨v, e1, h1⟩ := h e w' hR
    exact ⟨v, e1, hK' _ _ h1⟩
  have HC := Lib.hid hc
  clear h hc hK'
  unfold Oper.wp execOp
  simp only [ho]
  go_simp
  refine HC.out.mono ?_
  intro e w' hR
  obtain ⟨v, rfl, hK⟩ := HH.out e w' hR
  exact hK
theorem six_small {z : ByteArray} (h : z ∈ [(⟨#[]⟩ : ByteArray), S1 49, S1 48, S1 32, S1 47, S1 50]) : z.size ≤ 1 := by
  simp only [List.mem_cons, List.not_mem_nil, or_false] at h
  rcases h with rfl | rfl | rfl | rfl | rfl | rfl <;> decide
set_option maxHeartbeats 4000000 in
theorem spec_DrawParseTele (a : Option Addr) (len cap : Nat) (zs : List Int) (w : World) (h : IsRow .u8 w a len cap zs) :
    Calls Tryd.prog 11 #[.slice a len cap] w (RetAny w 1000) := by
  go_enter Tryd.func11, Tryd.ntmps11
  go_wp2_with fail
  refine (spec_l21Open _ _ _ _ _ h).mono ?_
  rintro e v0 ⟨rfl, hr0, hb0⟩
  have hgl := hr0.lt
  go_wp2_with fail
  refine (spec_l16SomeW _ 0 _ hr0 (by omega)).mono ?_
  rintro e v1 ⟨b1, c1, b2, c2, mo, chi, psi, p1, rfl, o1, o2, hne, wa, wb, wm, hp1, hr1, hg1⟩
  obtain ⟨l1, k1⟩ := sown_of o1
  obtain ⟨l2, k2⟩ := sown_of o2
  have hM : Mach v1 (some ⟨b1, 0, none⟩) 3 (some ⟨b2, 0, none⟩) 3 chi psi mo := ⟨k1.strs, k2.strs, l1, l2, by omega, by omega, fun s hs => wheel_small (wa s hs), fun s hs => wheel_small (wb s hs), wheel_small wm⟩
  have hv : tvld chi psi mo = true := by rw [tvld, wheels3_all l1 wa, wheels3_all l2 wb, wm]; rfl
  have hB1 : Below w.heap.size w v1 := hb0.grown hg1 hb0.size (fun k hk => by injection hk with hk; omega)
  have hl := ft_len hv
  have HM := Lib.hid hM
  clear o1 o2 hne wa wb wm l1 l2 k1 k2 hM hg1 hr0 hb0
  go_wp2_with fail
  refine (spec_FormatTele _ _ _ _ _ _ _ _ _ _ HM.out).mono ?_
  rintro e v2 ⟨s, rfl, hs, hb2⟩
  rw [← hs, nb_length] at hl
  have hr2 := hr1.next hb2
  have hB2 := bthen hB1 hb2
  have hgl2 := hr2.lt
  clear hs hr1 hb2 hB1 HM hv
  go_wp2_with fail
  refine (spec_pick _ p1 2 _ hr2 (by omega) (by omega) (by omega)).mono ?_
  rintro e v3 ⟨m, rfl, hm, hr3, hg3⟩
  clear hm
  have hB3 := hB2.grown hg3 hB2.size (fun k hk => by injection hk with hk; omega)
  by_cases h0 : m = 0
  · subst h0
    go_wp2_with fail
    go_ret
    exact ⟨s, rfl, by omega, hB3⟩
  · have b0 : ((m : Int) == 0) = false := by rw [beq_eq_false_iff_ne]; omega
    clear h0
    go_wp2_with fail
    refine (spec_pick _ (p1 + 1) (s.size : Int) _ hr3 (by omega) (by omega) (by omega)).mono ?_
    rintro e v4 ⟨k, rfl, hk, hr4, hg4⟩
    have hk' : k < s.size := by omega
    clear hk
    have hB4 := hB3.grown hg4 hB3.size (fun k hk => by injection hk with hk; omega)
    have hbd : Below v4.heap.size v4 v4.drew := (Below.refl _ _).drew
    have hr4d := hr4.next hbd
    have hB4d := bthen hB4 hbd
    have hgl4 := hr4.lt
    go_wp2_with fail
    have hk1 : (k : Int) ≤ (s.size : Int) := by omega
    have HO := Lib.hid (spec_of w.heap.size (p1 + 1 + 1) 6 6 (some ⟨v4.heap.size, 0, none⟩) [⟨#[]⟩, S1 49, S1 48, S1 32, S1 47, S1 50] (v4.alloc (.cells #[.string ⟨#[]⟩, .string ⟨#[49]⟩, .string ⟨#[48]⟩, .string ⟨#[32]⟩, .string ⟨#[47]⟩, .string ⟨#[50]⟩] 9)).drew
      ((hr4.alloc _).next (Below.refl _ _).drew) (by omega) (by omega) (by omega) ⟨v4.heap.size, 0, none⟩ rfl rfl (by show v4.heap.size ≠ w.heap.size; omega) rfl
      (fun j z hz => cells_lit v4 [.string ⟨#[]⟩, .string (S1 49), .string (S1 48), .string (S1 32), .string (S1 47), .string (S1 50)] 9 j _ (by have := congrArg (Option.map Value.string) hz; simpa [← List.getElem?_map] using this)))
    clear hr4d hB4d hbd hr3 hg3 hg4 hB3 hB2 b0
    refine wp_region_noPanic ?_
    refine wp_region_held (S := fun _ => True) (by kernel_rfl) ?_
    refine wpAnyH_take (i := 0) (v := .string s) rfl (by kernel_rfl) (by kernel_rfl) (by kernel_rfl) (fun _ _ _ h => h) (.inl ⟨by kernel_rfl, fun u _ => by kernel_rfl⟩) trivial ?_
    refine wpAnyH_take (i := 1) (v := .int .i64 (k : Int)) rfl (by kernel_rfl) (by kernel_rfl) (by kernel_rfl) (fun _ _ _ h => h) (.inl ⟨by kernel_rfl, fun u _ => by kernel_rfl⟩) trivial ?_
    refine wpAnyH_take (i := 2) (v := .string (s.extract 0 k)) rfl (by kernel_rfl) (by kernel_rfl) (by kernel_rfl) (fun _ _ _ h => h) (.inl ⟨by kernel_rfl, fun u _ => exec_take _ _ _ _ u s k rfl (by kernel_rfl) (by kernel_rfl) (Nat.le_of_lt hk')⟩) trivial ?_
    refine wpAnyH_take (i := 3) (v := .pointer (some ⟨w.heap.size, 0, none⟩)) rfl (by kernel_rfl) (by kernel_rfl) (by kernel_rfl) (fun _ _ _ h => h) (.inl ⟨by kernel_rfl, fun u _ => by kernel_rfl⟩) trivial ?_
    refine wpAnyH_take (i := 7) (v := .string s) rfl (by kernel_rfl) (by kernel_rfl) (by kernel_rfl) (fun _ _ _ h => h) (.inl ⟨by kernel_rfl, fun u _ => by kernel_rfl⟩) trivial ?_
    refine wpAnyH_take (i := 8) (v := .int .i64 (k : Int)) rfl (by kernel_rfl) (by kernel_rfl) (by kernel_rfl) (fun _ _ _ h => h) (.inl ⟨by kernel_rfl, fun u _ => by kernel_rfl⟩) trivial ?_
    refine wpAnyH_take (i := 9) (v := .pointer (some ⟨w.heap.size, 0, none⟩)) rfl (by kernel_rfl) (by kernel_rfl) (by kernel_rfl) (fun _ _ _ h => h) (.inl ⟨by kernel_rfl, fun u _ => by kernel_rfl⟩) trivial ?_
    refine wpAnyH_one (n := 4) (by kernel_rfl) ?_
    refine op_build6 (n := 4) rfl rfl (by kernel_rfl) ⟨trivial, ?_⟩
    refine wpAnyH_one (n := 5) (by kernel_rfl) ?_
    refine op_callOf (n := 5) (i := 22) (j := 23) (v1 := .pointer (some ⟨w.heap.size, 0, none⟩)) (v2 := .slice (some ⟨v4.heap.size, 0, none⟩) 6 6) rfl rfl (by kernel_rfl) (by kernel_rfl) (by kernel_rfl) HO.out ?_
    rintro e v5 ⟨z, rfl, hz, hr5, hg5⟩
    have hz1 := six_small hz
    clear hz
    refine ⟨_, rfl, trivial, ?_⟩
    refine wpAnyH_take (i := 6) (v := .string (s.extract 0 k ++ z)) rfl (by kernel_rfl) (by kernel_rfl) (by kernel_rfl) (fun _ _ _ h => h) (.inl ⟨by kernel_rfl, fun u _ => exec_add _ _ _ _ u (s.extract 0 k) z rfl (by kernel_rfl) (by kernel_rfl) (by rw [ByteArray.size_extract]; omega)⟩) trivial ?_
    refine wpAnyH_one (n := 10) (by kernel_rfl) ?_
    refine op_callPick (n := 10) (i := 28) (v1 := .pointer (some ⟨w.heap.size, 0, none⟩)) rfl rfl (by kernel_rfl) (by kernel_rfl) (spec_pick w.heap.size (p1 + 1 + 1 + 1) 2 v5 hr5 (by omega) (by omega) (by omega)) ?_
    rintro e v6 ⟨j, rfl, hj, hr6, hg6⟩
    have hj' : k + j ≤ s.size := by omega
    clear hj
    refine ⟨_, rfl, trivial, ?_⟩
    refine wpAnyH_take (i := 11) (v := .int .i64 ((k + j : Nat) : Int)) rfl (by kernel_rfl) (by kernel_rfl) (by kernel_rfl) (fun _ _ _ h => h) (.inl ⟨by kernel_rfl, fun u _ => exec_addI _ _ _ _ u k j rfl (by kernel_rfl) (by kernel_rfl) (by omega)⟩) trivial ?_
    refine wpAnyH_take (i := 12) (v := .string (s.extract (k + j) s.size)) rfl (by kernel_rfl) (by kernel_rfl) (by kernel_rfl) (fun _ _ _ h => h) (.inl ⟨by kernel_rfl, fun u _ => exec_from _ _ _ _ u s (k + j) rfl (by kernel_rfl) (by kernel_rfl) hj'⟩) trivial ?_
    refine wpAnyH_take (i := 13) (v := .string (s.extract 0 k ++ z ++ s.extract (k + j) s.size)) rfl (by kernel_rfl) (by kernel_rfl) (by kernel_rfl) (fun _ _ _ h => h) (.inl ⟨by kernel_rfl, fun u _ => exec_add _ _ _ _ u (s.extract 0 k ++ z) (s.extract (k + j) s.size) rfl (by kernel_rfl) (by kernel_rfl) (by rw [ByteArray.size_append, ByteArray.size_extract, ByteArray.size_extract]; omega)⟩) trivial ?_
    refine wpAnyH_take (i := 14) (v := .string (s.extract 0 k ++ z ++ s.extract (k + j) s.size)) rfl (by kernel_rfl) (by kernel_rfl) (by kernel_rfl) (fun _ _ _ h => h) (.inl ⟨by kernel_rfl, fun u _ => by kernel_rfl⟩) trivial ?_
    refine wpAnyH_done (by kernel_rfl) ?_ _
    refine NoPanic.normal ?_
    go_wp2_with fail
    go_ret
    refine ⟨s.extract 0 k ++ z ++ s.extract (k + j) s.size, by kernel_rfl, by rw [ByteArray.size_append, ByteArray.size_append, ByteArray.size_extract, ByteArray.size_extract]; omega, ?_⟩
    have hBa := bthen (bthen hB4 (belA v4 (.cells #[.string ⟨#[]⟩, .string ⟨#[49]⟩, .string ⟨#[48]⟩, .string ⟨#[32]⟩, .string ⟨#[47]⟩, .string ⟨#[50]⟩] 9))) (Below.refl _ _).drew
    have hBb := hBa.grown hg5 hBa.size (fun k hk => by injection hk with hk; omega)
    exact hBb.grown hg6 hBb.size (fun k hk => by injection hk with hk; omega)
end Go.Proofs.YtchjhngfkngljaaDoor
