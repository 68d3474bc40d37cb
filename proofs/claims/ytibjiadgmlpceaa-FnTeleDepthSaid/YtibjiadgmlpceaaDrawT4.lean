/- The draws of the laws on machines. No condition. -/
import Derived.Test.YtibjiadgmlpceaaDrawT3
set_option linter.unusedVariables false
namespace Go.Proofs.Ytibjiadgmlpceaa
open Go.RowKit

theorem IsRow.next {k : IntKind} {w w' : World} {a : Option Addr} {len cap : Nat} {zs : List Int} (h : IsRow k w a len cap zs) (hb : Below w.heap.size w w') : IsRow k w' a len cap zs := by
  rcases h with h | ⟨x, ha, hl, hm, hz, hc, hw⟩
  · exact .inl h
  · refine .inr ⟨x, ha, hl, hm, hz, fun i hi => ?_, hw⟩
    have h1 := hc i hi
    rw [hb.cell (block_lt_of_cell h1)]
    exact h1
theorem SOwn.set {w : World} {lo hi R j : Nat} {u : Value} {A : Option Addr} {zs : List ByteArray} (h : SOwn w lo hi A zs) (hR : R < lo) : SOwn (w.setCell ⟨R, j, none⟩ u) lo hi A zs := by
  rcases h with h | ⟨g, hA, h1, h2, h⟩
  · exact .inl h
  · exact .inr ⟨g, hA, h1, h2, h.far (by show g ≠ R; omega) u⟩
/-- A machine of the call's own, in blocks from lo on. -/
structure MO (w : World) (lo : Nat) (A : Option Addr) (n : Nat) (B : Option Addr) (m : Nat) (chi psi : List ByteArray) (mo : ByteArray) : Prop where
  oa : ∃ hi, SOwn w lo hi A chi
  ob : ∃ hi, SOwn w lo hi B psi
  la : chi.length = n
  lb : psi.length = m
  hn : n ≤ 10
  hm : m ≤ 10
  sa : ∀ s ∈ chi, s.size ≤ 100
  sb : ∀ s ∈ psi, s.size ≤ 100
  sm : mo.size ≤ 100
section
variable {w w' : World} {lo : Nat} {A B : Option Addr} {n m : Nat} {chi psi : List ByteArray} {mo : ByteArray}
theorem MO.mach (h : MO w lo A n B m chi psi mo) : Mach w A n B m chi psi mo := by
  obtain ⟨_, h1⟩ := h.oa
  obtain ⟨_, h2⟩ := h.ob
  have := h.hn
  have := h.hm
  have := h.sm
  exact ⟨h1.strs, h2.strs, h.la, h.lb, by omega, by omega, fun s hs => by have := h.sa s hs; unfold maxLen; omega, fun s hs => by have := h.sb s hs; unfold maxLen; omega, by unfold maxLen; omega⟩
theorem MO.next (h : MO w lo A n B m chi psi mo) (hb : Below w.heap.size w w') : MO w' lo A n B m chi psi mo :=
  ⟨h.oa.imp fun _ k => k.next hb, h.ob.imp fun _ k => k.next hb, h.la, h.lb, h.hn, h.hm, h.sa, h.sb, h.sm⟩
theorem MO.grown (h : MO w lo A n B m chi psi mo) {g : Nat} (hg : w.grownBy w' (some g)) (h1 : g < lo) : MO w' lo A n B m chi psi mo :=
  ⟨h.oa.imp fun _ k => k.grown hg h1, h.ob.imp fun _ k => k.grown hg h1, h.la, h.lb, h.hn, h.hm, h.sa, h.sb, h.sm⟩
theorem MO.set (h : MO w lo A n B m chi psi mo) {R j : Nat} {u : Value} (h1 : R < lo) : MO (w.setCell ⟨R, j, none⟩ u) lo A n B m chi psi mo :=
  ⟨h.oa.imp fun _ k => k.set h1, h.ob.imp fun _ k => k.set h1, h.la, h.lb, h.hn, h.hm, h.sa, h.sb, h.sm⟩
theorem MO.less (h : MO w lo A n B m chi psi mo) {lo' : Nat} (h1 : lo' ≤ lo) : MO w lo' A n B m chi psi mo :=
  ⟨h.oa.imp fun _ k => k.wider h1 (Nat.le_refl _), h.ob.imp fun _ k => k.wider h1 (Nat.le_refl _), h.la, h.lb, h.hn, h.hm, h.sa, h.sb, h.sm⟩
end
/-- A machine, and a number or a string. -/
def RetMI (w : World) (e : Ending) (w' : World) : Prop :=
  ∃ (A : Option Addr) (n c : Nat) (B : Option Addr) (m d : Nat) (mo : ByteArray) (chi psi : List ByteArray) (z : Int), e = .returned (.tuple #[.agg #[.slice A n c, .slice B m d, .string mo], .int .i64 z]) ∧ MO w' w.heap.size A n B m chi psi mo ∧ Below w.heap.size w w'
def RetMS (w : World) (e : Ending) (w' : World) : Prop :=
  ∃ (A : Option Addr) (n c : Nat) (B : Option Addr) (m d : Nat) (mo : ByteArray) (chi psi : List ByteArray) (s : ByteArray), e = .returned (.tuple #[.agg #[.slice A n c, .slice B m d, .string mo], .string s]) ∧ s.size ≤ 1000 ∧ MO w' w.heap.size A n B m chi psi mo ∧ Below w.heap.size w w'
abbrev tri (v : World) (R : Nat) (A : Option Addr) (n c : Nat) (B : Option Addr) (m d : Nat) (mo : ByteArray) : World := ((v.setCell ⟨R, 0, none⟩ (.slice A n c)).setCell ⟨R, 1, none⟩ (.slice B m d)).setCell ⟨R, 2, none⟩ (.string mo)
theorem tri_buf {v : World} {R : Nat} {t : TypeId} {x y z : Value} (h : Buf v R t [x, y, z]) (A : Option Addr) (n c : Nat) (B : Option Addr) (m d : Nat) (mo : ByteArray) : Buf (tri v R A n c B m d mo) R t [.slice A n c, .slice B m d, .string mo] :=
  ((h.set 0 (.slice A n c)).set 1 (.slice B m d)).set 2 (.string mo)
theorem tri_bel {w v : World} {R : Nat} (h : Below R w v) (A : Option Addr) (n c : Nat) (B : Option Addr) (m d : Nat) (mo : ByteArray) : Below R w (tri v R A n c B m d mo) :=
  ((h.setCell (p := ⟨R, 0, none⟩) (Nat.le_refl _) (.slice A n c)).setCell (p := ⟨R, 1, none⟩) (Nat.le_refl _) (.slice B m d)).setCell (p := ⟨R, 2, none⟩) (Nat.le_refl _) (.string mo)
theorem tri_mo {v : World} {R lo : Nat} {A B : Option Addr} {n c m d : Nat} {mo : ByteArray} {chi psi : List ByteArray} (h : MO v lo A n B m chi psi mo) (h1 : R < lo) : MO (tri v R A n c B m d mo) lo A n B m chi psi mo := ((h.set h1).set h1).set h1
set_option maxHeartbeats 2000000 in
theorem spec_DrawChiTape (a : Option Addr) (len cap : Nat) (zs : List Int) (w : World) (h : IsRow .u8 w a len cap zs) :
    Calls Try.prog 20 #[.slice a len cap] w (RetMI w) := by
  have hb0 := belA w (.cells #[.slice none 0 0, .slice none 0 0, .string ⟨#[]⟩] 25)
  have hz0 := zboxD w
  have H := Lib.hid (h.next hb0)
  clear h
  go_enter Try.func20, Try.ntmps20
  go_wp2_with fail
  refine (spec_l21Open _ _ _ _ _ H.out).mono ?_
  rintro e v1 ⟨rfl, hr1, hb1⟩
  have hz1 := hz0.next hb1
  have hB1 := bthen hb0 hb1
  rw [sz_alloc] at hr1
  have hs1 : (w.alloc (.cells #[.slice none 0 0, .slice none 0 0, .string ⟨#[]⟩] 25)).heap.size = w.heap.size + 1 := sz_alloc _ _
  have hgl := hr1.lt
  clear hz0 hb0 hb1
  go_wp2_with fail
  refine (spec_l16Open _ 0 _ hr1 (by omega)).mono ?_
  rintro e v2 ⟨A, n, c, B, m, d, mo, chi, psi, p2, rfl, o1, o2, l1, l2, hn, hm, sa, sb, sm, hp2, hr2, hg2⟩
  have hM2 : MO v2 v1.heap.size A n B m chi psi mo := ⟨⟨_, o1⟩, ⟨_, o2⟩, l1, l2, hn, hm, sa, sb, sm⟩
  have hz2 := hz1.grown hg2 (by intro e; injection e with e; omega)
  have hB2 := Below.grown hB1 hg2 hB1.size (fun k hk => by injection hk with hk; omega)
  have hs2 := hg2.size
  have hb3 := belA v2 (.cells #[.slice A n c, .slice B m d, .string mo] 25)
  have hbd : Below (v2.alloc (.cells #[.slice A n c, .slice B m d, .string mo] 25)).heap.size (v2.alloc (.cells #[.slice A n c, .slice B m d, .string mo] 25)) (v2.alloc (.cells #[.slice A n c, .slice B m d, .string mo] 25)).drew := (Below.refl _ _).drew
  have hb3d := bthen hb3 hbd
  have hx3 := (tbox v2 A n c B m d mo).next hbd
  have hz3 := hz2.next hb3d
  have hr3 := hr2.next hb3d
  have hB3 := bthen hB2 hb3d
  have HM := Lib.hid (hM2.next hb3d)
  have HX := Lib.hid (And.intro hx3 hz3)
  clear hz1 hz2 o1 o2 l1 l2 sa sb sm hM2 hx3 hz3 hr2
  go_wp2_with fail
  go_region_law (first | (go_simp; go_at_call 36; refine (spec_l16Number _ p2 _ hr3 (by omega)).mono ?_; rintro e v4 ⟨z, rfl, hg4⟩; have hx4 := HX.out.1.grown hg4 (by intro e; injection e with e; omega); have hz4 := HX.out.2.grown hg4 (by intro e; injection e with e; omega); have q0 := hx4.cell (j := 0) rfl; have q1 := hx4.cell (j := 1) rfl; have q2 := hx4.cell (j := 2) rfl; have r0 := hz4.cell (j := 0) rfl; have r1 := hz4.cell (j := 1) rfl; have r2 := hz4.cell (j := 2) rfl; have s0 := hz4.free (j := 0) (by simp); have s1 := hz4.free (j := 1) (by simp); have s2 := hz4.free (j := 2) (by simp); have HZ4 := Lib.hid hz4; clear hx4 hz4))
  all_goals
    clear q0 q1 q2 r0 r1 r2 s0 s1 s2
    have hM4 := tri_mo (c := c) (d := d) (R := w.heap.size) (HM.out.grown hg4 (by omega)) (by omega)
    have hB4 := tri_bel (Below.grown hB3 hg4 hB3.size (fun k hk => by injection hk with hk; omega)) A n c B m d mo
    have hR4 := tri_buf HZ4.out A n c B m d mo
    have p0 := hR4.cell (j := 0) rfl
    have p1 := hR4.cell (j := 1) rfl
    have p2 := hR4.cell (j := 2) rfl
    have HH := Lib.hid (And.intro (hM4.less (lo' := w.heap.size) (by omega)) hB4)
    clear HX HM hr3 HZ4 hB3 hB2 hB1 hM4 hB4 hR4 hg4
    go_wp2_with fail
    exact bodyPost_ret (v := .tuple #[.agg #[.slice A n c, .slice B m d, .string mo], .int .i64 z]) (by simp [results, Try.results20, go_sem, p0, p1, p2]) rfl ⟨A, n, c, B, m, d, mo, chi, psi, z, rfl, HH.out.1, HH.out.2⟩
set_option maxHeartbeats 1000000 in
theorem spec_DrawTeleKey (a : Option Addr) (len cap : Nat) (zs : List Int) (w : World) (h : IsRow .u8 w a len cap zs) :
    Calls Try.prog 8 #[.slice a len cap] w (RetMI w) := by
  have hb0 := belA w (.cells #[.slice none 0 0, .slice none 0 0, .string ⟨#[]⟩] 25)
  have hz0 := zboxD w
  have H := Lib.hid (h.next hb0)
  clear h
  go_enter Try.func8, Try.ntmps8
  go_wp2_with fail
  refine (spec_DrawChiTape _ _ _ _ _ H.out).mono ?_
  rintro e v1 ⟨A, n, c, B, m, d, mo, chi, psi, z, rfl, hM1, hb1⟩
  have hz1 := hz0.next hb1
  have hB1 := bthen hb0 hb1
  rw [sz_alloc] at hM1
  have r0 := hz1.cell (j := 0) rfl
  have r1 := hz1.cell (j := 1) rfl
  have r2 := hz1.cell (j := 2) rfl
  have s0 := hz1.free (j := 0) (by simp)
  have s1 := hz1.free (j := 1) (by simp)
  have s2 := hz1.free (j := 2) (by simp)
  have hM4 := tri_mo (c := c) (d := d) (R := w.heap.size) hM1 (by omega)
  have hB4 := tri_bel hB1 A n c B m d mo
  have hR4 := tri_buf hz1 A n c B m d mo
  have HR := Lib.hid hR4
  have HH := Lib.hid (And.intro (hM4.less (Nat.le_succ _)) hB4)
  clear hz0 hb0 hz1 hM1 hB1 hb1 hM4 hB4 hR4
  go_wp2_with fail
  clear r0 r1 r2 s0 s1 s2
  have p0 := HR.out.cell (j := 0) rfl
  have p1 := HR.out.cell (j := 1) rfl
  have p2 := HR.out.cell (j := 2) rfl
  exact bodyPost_ret (v := .tuple #[.agg #[.slice A n c, .slice B m d, .string mo], .int .i64 z]) (by simp [results, Try.results8, go_sem, p0, p1, p2]) rfl ⟨A, n, c, B, m, d, mo, chi, psi, z, rfl, HH.out.1, HH.out.2⟩
set_option maxHeartbeats 2000000 in
theorem spec_DrawTeleEncipher (a : Option Addr) (len cap : Nat) (zs : List Int) (w : World) (h : IsRow .u8 w a len cap zs) :
    Calls Try.prog 14 #[.slice a len cap] w (RetMS w) := by
  have hb0 := belA w (.cells #[.slice none 0 0, .slice none 0 0, .string ⟨#[]⟩] 25)
  have hz0 := zboxD w
  have H := Lib.hid (h.next hb0)
  clear h
  go_enter Try.func14, Try.ntmps14
  go_wp2_with fail
  refine (spec_l21Open _ _ _ _ _ H.out).mono ?_
  rintro e v1 ⟨rfl, hr1, hb1⟩
  have hz1 := hz0.next hb1
  have hB1 := bthen hb0 hb1
  rw [sz_alloc] at hr1
  have hs1 : (w.alloc (.cells #[.slice none 0 0, .slice none 0 0, .string ⟨#[]⟩] 25)).heap.size = w.heap.size + 1 := sz_alloc _ _
  have hgl := hr1.lt
  clear hz0 hb0 hb1
  go_wp2_with fail
  refine (spec_l16Open _ 0 _ hr1 (by omega)).mono ?_
  rintro e v2 ⟨A, n, c, B, m, d, mo, chi, psi, p2, rfl, o1, o2, l1, l2, hn, hm, sa, sb, sm, hp2, hr2, hg2⟩
  have hM2 : MO v2 v1.heap.size A n B m chi psi mo := ⟨⟨_, o1⟩, ⟨_, o2⟩, l1, l2, hn, hm, sa, sb, sm⟩
  have hz2 := hz1.grown hg2 (by intro e; injection e with e; omega)
  have hB2 := Below.grown hB1 hg2 hB1.size (fun k hk => by injection hk with hk; omega)
  have hs2 := hg2.size
  have hb3 := belA v2 (.cells #[.slice A n c, .slice B m d, .string mo] 25)
  have hbd : Below (v2.alloc (.cells #[.slice A n c, .slice B m d, .string mo] 25)).heap.size (v2.alloc (.cells #[.slice A n c, .slice B m d, .string mo] 25)) (v2.alloc (.cells #[.slice A n c, .slice B m d, .string mo] 25)).drew := (Below.refl _ _).drew
  have hb3d := bthen hb3 hbd
  have hx3 := (tbox v2 A n c B m d mo).next hbd
  have hz3 := hz2.next hb3d
  have hr3 := hr2.next hb3d
  have hB3 := bthen hB2 hb3d
  have HM := Lib.hid (hM2.next hb3d)
  have HX := Lib.hid (And.intro hx3 hz3)
  clear hz1 hz2 o1 o2 l1 l2 sa sb sm hM2 hx3 hz3 hr2
  go_wp2_with fail
  go_region_law (first | (go_simp; go_at_call 34; refine (spec_pick _ p2 20 _ hr3 (by omega) (by omega) (by omega)).mono ?_; rintro e w1 ⟨L, rfl, hL, hR1, hG1⟩; have hL' : L ≤ 20 := (by omega); have m0 := (HX.out.1.grown hG1 (by intro e; injection e with e; omega)).cell (j := 0) rfl; have m1 := (HX.out.1.grown hG1 (by intro e; injection e with e; omega)).cell (j := 1) rfl; have m2 := (HX.out.1.grown hG1 (by intro e; injection e with e; omega)).cell (j := 2) rfl) | (go_simp; go_at_call 33; refine (spec_l16Tape _ _ L _ hR1 (by omega) (by omega)).mono ?_; rintro e w2 ⟨t2, rfl, ht2, hR2, hG2⟩; have ht2' : t2.size ≤ 20 := (by omega); have hG12 := gthen hG1 hG2; have k0 := (HX.out.1.grown hG12 (by intro e; injection e with e; omega)).cell (j := 0) rfl; have k1 := (HX.out.1.grown hG12 (by intro e; injection e with e; omega)).cell (j := 1) rfl; have k2 := (HX.out.1.grown hG12 (by intro e; injection e with e; omega)).cell (j := 2) rfl) | (go_simp; go_at_call 32; refine (spec_l16Bad _ _ t2 _ hR2 (by omega) (by omega)).mono ?_; rintro e v4 ⟨z, p4, rfl, hz, hp4, hR4, hG4⟩; have hz' : z.size ≤ 1000 := (by omega); have hg4 := gthen hG12 hG4; clear hz; have hx4 := HX.out.1.grown hg4 (by intro e; injection e with e; omega); have hz4 := HX.out.2.grown hg4 (by intro e; injection e with e; omega); have q0 := hx4.cell (j := 0) rfl; have q1 := hx4.cell (j := 1) rfl; have q2 := hx4.cell (j := 2) rfl; have r0 := hz4.cell (j := 0) rfl; have r1 := hz4.cell (j := 1) rfl; have r2 := hz4.cell (j := 2) rfl; have s0 := hz4.free (j := 0) (by simp); have s1 := hz4.free (j := 1) (by simp); have s2 := hz4.free (j := 2) (by simp); have HZ4 := Lib.hid hz4; clear hx4 hz4))
  all_goals
    clear q0 q1 q2 r0 r1 r2 s0 s1 s2
    have hM4 := tri_mo (c := c) (d := d) (R := w.heap.size) (HM.out.grown hg4 (by omega)) (by omega)
    have hB4 := tri_bel (Below.grown hB3 hg4 hB3.size (fun k hk => by injection hk with hk; omega)) A n c B m d mo
    have hR4 := tri_buf HZ4.out A n c B m d mo
    have p0 := hR4.cell (j := 0) rfl
    have p1 := hR4.cell (j := 1) rfl
    have p2 := hR4.cell (j := 2) rfl
    have HH := Lib.hid (And.intro (hM4.less (lo' := w.heap.size) (by omega)) hB4)
    clear HX HM hr3 HZ4 hB3 hB2 hB1 hM4 hB4 hR4 hg4
    go_wp2_with fail
    exact bodyPost_ret (v := .tuple #[.agg #[.slice A n c, .slice B m d, .string mo], .string z]) (by simp [results, Try.results14, go_sem, p0, p1, p2]) rfl ⟨A, n, c, B, m, d, mo, chi, psi, z, rfl, hz', HH.out.1, HH.out.2⟩
end Go.Proofs.Ytibjiadgmlpceaa
