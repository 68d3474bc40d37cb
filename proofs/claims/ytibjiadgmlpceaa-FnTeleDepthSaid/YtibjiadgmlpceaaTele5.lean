/- The key and the enciphered tape: both programs return what the plain functions say. No condition. -/
import Derived.Test.YtibjiadgmlpceaaTele4
set_option linter.unusedVariables false
namespace Go.Proofs.Ytibjiadgmlpceaa
open Go.RowKit

def tk (chi psi : List ByteArray) (mo : ByteArray) (z : Int) : List Nat := if tfit chi psi mo z then xorL (chiL chi z.toNat) (psiL psi mo z.toNat) else []
def teOk (chi psi : List ByteArray) (mo : ByteArray) (l : List Nat) : Bool := tfit chi psi mo (l.length : Int) && xtOk l (tk chi psi mo (l.length : Int))
def te (chi psi : List ByteArray) (mo : ByteArray) (l : List Nat) : List Nat := if tfit chi psi mo (l.length : Int) then xt l (tk chi psi mo (l.length : Int)) else []
theorem tv_chi {ss : List ByteArray} (h : wheels3 ss = true) {n : Nat} (hn : n ≤ 200) : tv (chiL ss n) = true := by
  refine tv_mk (by rw [chiL_len]; exact hn) fun k c hc => ?_
  have hk : k < n := by have := (List.getElem?_eq_some_iff.1 hc).1; rwa [chiL_len] at this
  rw [chiL_at ss n k hk] at hc
  injection hc with hc
  rw [← hc]
  exact l3_bd h k
theorem tv_psi {ss : List ByteArray} (h : wheels3 ss = true) (mo : ByteArray) {n : Nat} (hn : n ≤ 200) : tv (psiL ss mo n) = true := by
  refine tv_mk (by rw [psiL_len]; exact hn) fun k c hc => ?_
  have hk : k < n := by have := (List.getElem?_eq_some_iff.1 hc).1; rwa [psiL_len] at this
  rw [psiL_at ss mo n k hk] at hc
  injection hc with hc
  rw [← hc]
  exact l3_bd h _
theorem tk_facts {chi psi : List ByteArray} {mo : ByteArray} {z : Int} (h : tfit chi psi mo z = true) :
    tv (chiL chi z.toNat) = true ∧ tv (psiL psi mo z.toNat) = true ∧ (chiL chi z.toNat).length = (psiL psi mo z.toNat).length ∧ ct chi psi mo z = chiL chi z.toNat ∧ pt chi psi mo z = psiL psi mo z.toNat := by
  obtain ⟨h1, h2, h3, n, rfl, hn⟩ := tfit_yes h
  refine ⟨tv_chi h1 (by simpa using hn), tv_psi h2 mo (by simpa using hn), by rw [chiL_len, psiL_len], by rw [ct, h]; rfl, by rw [pt, h]; rfl⟩
theorem tk_len {chi psi : List ByteArray} {mo : ByteArray} {z : Int} (h : tfit chi psi mo z = true) : (tk chi psi mo z).length ≤ 200 := by
  obtain ⟨t1, t2, t3, e1, e2⟩ := tk_facts h
  rw [tk, h, if_pos rfl, xorL_len t3]
  exact tv_len t1
set_option maxHeartbeats 1000000 in
theorem impl_TeleKey (A B : Option Addr) (n c m d : Nat) (chi psi : List ByteArray) (mo : ByteArray) (z : Int) (w : World) (h : Mach w A n B m chi psi mo) :
    Calls Try.prog 9 #[.agg #[.slice A n c, .slice B m d, .string mo], .int .i64 z] w (RetSB w (tk chi psi mo z) (tfit chi psi mo z)) := by
  have H := Lib.hid (h.next (belA w (.cells #[.slice A n c, .slice B m d, .string mo] 25)))
  have HB := Lib.hid (belA w (.cells #[.slice A n c, .slice B m d, .string mo] 25))
  have hT := tbox w A n c B m d mo
  clear h
  go_enter Try.func9, Try.ntmps9
  go_wp2_with fail
  refine (impl_ChiTape _ _ _ _ _ _ _ _ _ _ _ H.out).mono ?_
  rintro e v1 ⟨r1, rfl, hr1, hb1⟩
  have hB1 := bthen HB.out hb1
  have hT1 := hT.next hb1
  have q0 : v1.cell? ⟨w.heap.size, 0, none⟩ = some (.slice A n c) := hT1.cell (j := 0) rfl
  have q1 : v1.cell? ⟨w.heap.size, 1, none⟩ = some (.slice B m d) := hT1.cell (j := 1) rfl
  have q2 : v1.cell? ⟨w.heap.size, 2, none⟩ = some (.string mo) := hT1.cell (j := 2) rfl
  have H1 := Lib.hid (H.out.next hb1)
  have Hr1 := Lib.hid hr1
  have HT1 := Lib.hid hT1
  clear hr1 hT hT1
  go_wp2_with fail
  refine (impl_PsiTape _ _ _ _ _ _ _ _ _ _ _ H1.out).mono ?_
  rintro e v2 ⟨r2, rfl, hr2, hb2⟩
  have hB2 := bthen hB1 hb2
  have Hr2 := Lib.hid hr2
  clear hr2 q0 q1 q2
  cases hv : tfit chi psi mo z
  · go_wp2_with fail
    go_ret2
    exact ⟨ByteArray.empty, by rw [hv]; rfl, by rw [tk, hv]; rfl, hB2⟩
  · obtain ⟨t1, t2, t3, e1, e2⟩ := tk_facts hv
    have hr : tk chi psi mo z = xorL (nb r1) (nb r2) := by rw [Hr1.out, Hr2.out, e1, e2, tk, hv]; rfl
    have m1 : r1.size ≤ maxLen := by rw [← nb_length, Hr1.out, e1]; have := tv_len t1; unfold maxLen; omega
    have m2 : r2.size ≤ maxLen := by rw [← nb_length, Hr2.out, e2]; have := tv_len t2; unfold maxLen; omega
    have hok : xtOk (nb r1) (nb r2) = true := by rw [Hr1.out, Hr2.out, e1, e2]; unfold xtOk g3; rw [t1, t2, t3]; simp
    have Hr := Lib.hid hr
    clear hr t1 t2 t3 e1 e2
    go_wp2_with fail
    refine (impl_XorTapes r1 r2 _ m1 m2).mono ?_
    rintro e v3 ⟨r3, rfl, hr3, hb3⟩
    have hr3' : nb r3 = xorL (nb r1) (nb r2) := by rw [hr3, xt, hok]; rfl
    have Hr3 := Lib.hid hr3'
    clear hr3 hr3'
    go_wp2_with fail
    go_ret2
    exact ⟨r3, by rw [hv]; rfl, by rw [Hr3.out, Hr.out], bthen hB2 hb3⟩
set_option maxHeartbeats 1000000 in
theorem impl_TeleEncipher (A B : Option Addr) (n c m d : Nat) (chi psi : List ByteArray) (mo s : ByteArray) (w : World) (h : Mach w A n B m chi psi mo) (hs : s.size ≤ maxLen) :
    Calls Try.prog 15 #[.agg #[.slice A n c, .slice B m d, .string mo], .string s] w (RetSB w (te chi psi mo (nb s)) (teOk chi psi mo (nb s))) := by
  have H := Lib.hid (h.next (belA w (.cells #[.slice A n c, .slice B m d, .string mo] 25)))
  have HB := Lib.hid (belA w (.cells #[.slice A n c, .slice B m d, .string mo] 25))
  have hs' := hs
  unfold maxLen at hs'
  clear h
  cases hv : tfit chi psi mo (s.size : Int)
  · have r1 : te chi psi mo (nb s) = [] := by rw [te, nb_length, hv]; rfl
    have r2 : teOk chi psi mo (nb s) = false := by rw [teOk, nb_length, hv]; rfl
    rw [r1, r2]
    clear r1 r2
    go_enter Try.func15, Try.ntmps15
    go_wp2_with fail
    refine (impl_TeleKey _ _ _ _ _ _ _ _ _ _ _ H.out).mono ?_
    rintro e v1 ⟨r1, rfl, hr1, hb1⟩
    have hB1 := bthen HB.out hb1
    clear hr1
    go_wp2_with fail
    go_ret2
    exact ⟨ByteArray.empty, rfl, rfl, hB1⟩
  · have r1 : te chi psi mo (nb s) = xt (nb s) (tk chi psi mo (s.size : Int)) := by rw [te, nb_length, hv]; rfl
    have r2 : teOk chi psi mo (nb s) = xtOk (nb s) (tk chi psi mo (s.size : Int)) := by rw [teOk, nb_length, hv]; rfl
    rw [r1, r2]
    clear r1 r2
    have hl := tk_len hv
    generalize hK : tk chi psi mo (s.size : Int) = K at *
    have HK := Lib.hid hK
    clear hK
    go_enter Try.func15, Try.ntmps15
    go_wp2_with fail
    refine (impl_TeleKey _ _ _ _ _ _ _ _ _ _ _ H.out).mono ?_
    rintro e v1 ⟨r1, rfl, hr1, hb1⟩
    rw [HK.out] at hr1
    have hB1 := bthen HB.out hb1
    subst hr1
    have m1 : r1.size ≤ maxLen := by rw [← nb_length]; unfold maxLen; omega
    go_wp2_with fail
    refine (impl_XorTapes s r1 _ hs m1).mono ?_
    rintro e v3 ⟨r3, rfl, hr3, hb3⟩
    have Hr3 := Lib.hid hr3
    clear hr3
    go_wp2_with fail
    go_ret2
    exact ⟨r3, rfl, Hr3.out, bthen hB1 hb3⟩
set_option maxHeartbeats 1000000 in
theorem spec_TeleKey (A B : Option Addr) (n c m d : Nat) (chi psi : List ByteArray) (mo : ByteArray) (z : Int) (w : World) (h : Mach w A n B m chi psi mo) :
    Calls Try.prog 10 #[.agg #[.slice A n c, .slice B m d, .string mo], .int .i64 z] w (RetSB w (tk chi psi mo z) (tfit chi psi mo z)) := by
  have H := Lib.hid (h.next (belA w (.cells #[.slice A n c, .slice B m d, .string mo] 25)))
  have HB := Lib.hid (belA w (.cells #[.slice A n c, .slice B m d, .string mo] 25))
  have hT := tbox w A n c B m d mo
  clear h
  go_enter Try.func10, Try.ntmps10
  go_wp2_with fail
  refine (spec_ChiTape _ _ _ _ _ _ _ _ _ _ _ H.out).mono ?_
  rintro e v1 ⟨r1, rfl, hr1, hb1⟩
  have hB1 := bthen HB.out hb1
  have hT1 := hT.next hb1
  have q0 : v1.cell? ⟨w.heap.size, 0, none⟩ = some (.slice A n c) := hT1.cell (j := 0) rfl
  have q1 : v1.cell? ⟨w.heap.size, 1, none⟩ = some (.slice B m d) := hT1.cell (j := 1) rfl
  have q2 : v1.cell? ⟨w.heap.size, 2, none⟩ = some (.string mo) := hT1.cell (j := 2) rfl
  have H1 := Lib.hid (H.out.next hb1)
  have Hr1 := Lib.hid hr1
  have HT1 := Lib.hid hT1
  clear hr1 hT hT1
  go_wp2_with fail
  refine (spec_PsiTape _ _ _ _ _ _ _ _ _ _ _ H1.out).mono ?_
  rintro e v2 ⟨r2, rfl, hr2, hb2⟩
  have hB2 := bthen hB1 hb2
  have Hr2 := Lib.hid hr2
  clear hr2 q0 q1 q2
  cases hv : tfit chi psi mo z
  · go_wp2_with fail
    go_ret2
    exact ⟨ByteArray.empty, by rw [hv]; rfl, by rw [tk, hv]; rfl, hB2⟩
  · obtain ⟨t1, t2, t3, e1, e2⟩ := tk_facts hv
    have hr : tk chi psi mo z = xorL (nb r1) (nb r2) := by rw [Hr1.out, Hr2.out, e1, e2, tk, hv]; rfl
    have m1 : r1.size ≤ maxLen := by rw [← nb_length, Hr1.out, e1]; have := tv_len t1; unfold maxLen; omega
    have m2 : r2.size ≤ maxLen := by rw [← nb_length, Hr2.out, e2]; have := tv_len t2; unfold maxLen; omega
    have hok : xtOk (nb r1) (nb r2) = true := by rw [Hr1.out, Hr2.out, e1, e2]; unfold xtOk g3; rw [t1, t2, t3]; simp
    have Hr := Lib.hid hr
    clear hr t1 t2 t3 e1 e2
    go_wp2_with fail
    refine (spec_XorTapes r1 r2 _ m1 m2).mono ?_
    rintro e v3 ⟨r3, rfl, hr3, hb3⟩
    have hr3' : nb r3 = xorL (nb r1) (nb r2) := by rw [hr3, xt, hok]; rfl
    have Hr3 := Lib.hid hr3'
    clear hr3 hr3'
    go_wp2_with fail
    go_ret2
    exact ⟨r3, by rw [hv]; rfl, by rw [Hr3.out, Hr.out], bthen hB2 hb3⟩
set_option maxHeartbeats 1000000 in
theorem spec_TeleEncipher (A B : Option Addr) (n c m d : Nat) (chi psi : List ByteArray) (mo s : ByteArray) (w : World) (h : Mach w A n B m chi psi mo) (hs : s.size ≤ maxLen) :
    Calls Try.prog 16 #[.agg #[.slice A n c, .slice B m d, .string mo], .string s] w (RetSB w (te chi psi mo (nb s)) (teOk chi psi mo (nb s))) := by
  have H := Lib.hid (h.next (belA w (.cells #[.slice A n c, .slice B m d, .string mo] 25)))
  have HB := Lib.hid (belA w (.cells #[.slice A n c, .slice B m d, .string mo] 25))
  have hs' := hs
  unfold maxLen at hs'
  clear h
  cases hv : tfit chi psi mo (s.size : Int)
  · have r1 : te chi psi mo (nb s) = [] := by rw [te, nb_length, hv]; rfl
    have r2 : teOk chi psi mo (nb s) = false := by rw [teOk, nb_length, hv]; rfl
    rw [r1, r2]
    clear r1 r2
    go_enter Try.func16, Try.ntmps16
    go_wp2_with fail
    refine (spec_TeleKey _ _ _ _ _ _ _ _ _ _ _ H.out).mono ?_
    rintro e v1 ⟨r1, rfl, hr1, hb1⟩
    have hB1 := bthen HB.out hb1
    clear hr1
    go_wp2_with fail
    go_ret2
    exact ⟨ByteArray.empty, rfl, rfl, hB1⟩
  · have r1 : te chi psi mo (nb s) = xt (nb s) (tk chi psi mo (s.size : Int)) := by rw [te, nb_length, hv]; rfl
    have r2 : teOk chi psi mo (nb s) = xtOk (nb s) (tk chi psi mo (s.size : Int)) := by rw [teOk, nb_length, hv]; rfl
    rw [r1, r2]
    clear r1 r2
    have hl := tk_len hv
    generalize hK : tk chi psi mo (s.size : Int) = K at *
    have HK := Lib.hid hK
    clear hK
    go_enter Try.func16, Try.ntmps16
    go_wp2_with fail
    refine (spec_TeleKey _ _ _ _ _ _ _ _ _ _ _ H.out).mono ?_
    rintro e v1 ⟨r1, rfl, hr1, hb1⟩
    rw [HK.out] at hr1
    have hB1 := bthen HB.out hb1
    subst hr1
    have m1 : r1.size ≤ maxLen := by rw [← nb_length]; unfold maxLen; omega
    go_wp2_with fail
    refine (spec_XorTapes s r1 _ hs m1).mono ?_
    rintro e v3 ⟨r3, rfl, hr3, hb3⟩
    have Hr3 := Lib.hid hr3
    clear hr3
    go_wp2_with fail
    go_ret2
    exact ⟨r3, rfl, Hr3.out, bthen hB1 hb3⟩
end Go.Proofs.Ytibjiadgmlpceaa
