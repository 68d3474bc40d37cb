/- The key and the enciphered tape: both programs return what the plain functions say. No condition. -/
import Derived.Test.YtchjhngfkngljaaDoorTele4
set_option linter.unusedVariables false
namespace Go.Proofs.YtchjhngfkngljaaDoor
open Go.RowKit

def tk (chi psi : List ByteArray) (mo : ByteArray) (z : Int) : List Nat := if tfit chi psi mo z then xorL (chiL chi z.toNat) (psiL psi mo z.toNat) else []
def teOk (chi psi : List ByteArray) (mo : ByteArray) (l : List Nat) : Bool := tfit chi psi mo (l.length : Int) && xtOk l (tk chi psi mo (l.length : Int))
def te (chi psi : List ByteArray) (mo : ByteArray) (l : List Nat) : List Nat := if tfit chi psi mo (l.length : Int) then xt l (tk chi psi mo (l.length : Int)) else []
theorem tv_chi {ss : List ByteArray} (h : wheels3 ss = true) {n : Nat} (hn : n ≤ 200) : tv (chiL ss n) = true := by
  refine tv_mk (by rw [chiL_len]; exact hn) fun k c hc => ?_
  have hk : k < n := by have := (List.getElem?_eq_some_iff.1 hc).1; rwa [chiL_len] at this
  rw [chiL_at ss n k hk] at hc
  injection hc with hc
  rw [← hc]
  exact l3_bd h k
theorem tv_psi {ss : List ByteArray} (h : wheels3 ss = true) (mo : ByteArray) {n : Nat} (hn : n ≤ 200) : tv (psiL ss mo n) = true := by
  refine tv_mk (by rw [psiL_len]; exact hn) fun k c hc => ?_
  have hk : k < n := by have := (List.getElem?_eq_some_iff.1 hc).1; rwa [psiL_len] at this
  rw [psiL_at ss mo n k hk] at hc
  injection hc with hc
  rw [← hc]
  exact l3_bd h _
theorem tk_facts {chi psi : List ByteArray} {mo : ByteArray} {z : Int} (h : tfit chi psi mo z = true) :
    tv (chiL chi z.toNat) = true ∧ tv (psiL psi mo z.toNat) = true ∧ (chiL chi z.toNat).length = (psiL psi mo z.toNat).length ∧ ct chi psi mo z = chiL chi z.toNat ∧ pt chi psi mo z = psiL psi mo z.toNat := by
  obtain ⟨h1, h2, h3, n, rfl, hn⟩ := tfit_yes h
  refine ⟨tv_chi h1 (by simpa using hn), tv_psi h2 mo (by simpa using hn), by rw [chiL_len, psiL_len], by rw [ct, h]; rfl, by rw [pt, h]; rfl⟩
theorem tk_len {chi psi : List ByteArray} {mo : ByteArray} {z : Int} (h : tfit chi psi mo z = true) : (tk chi psi mo z).length ≤ 200 := by
  obtain ⟨t1, t2, t3, e1, e2⟩ := tk_facts h
  rw [tk, h, if_pos rfl, xorL_len t3]
  exact tv_len t1
end Go.Proofs.YtchjhngfkngljaaDoor
