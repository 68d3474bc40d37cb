/- The tapes of the wheels: both programs return what the plain functions say. No condition. -/
import Derived.Test.YtibjiadgmlpceaaTele2
set_option linter.unusedVariables false
namespace Go.Proofs.Ytibjiadgmlpceaa
open Go.RowKit

def l3 (ss : List ByteArray) (i : Nat) : Nat := match ss with
  | [x, y, z] => let3 x y z i
  | _ => 97
def chiL (ss : List ByteArray) (n : Nat) : List Nat := (List.range n).map (l3 ss)
def steps (mo : ByteArray) : Nat → Nat
  | 0 => 0
  | i + 1 => steps mo i + bitAt mo i
def psiL (ss : List ByteArray) (mo : ByteArray) (n : Nat) : List Nat := (List.range n).map fun i => l3 ss (steps mo i)
theorem chiL_len (ss : List ByteArray) (n : Nat) : (chiL ss n).length = n := by simp [chiL]
theorem psiL_len (ss : List ByteArray) (mo : ByteArray) (n : Nat) : (psiL ss mo n).length = n := by simp [psiL]
theorem chiL_at (ss : List ByteArray) (n k : Nat) (h : k < n) : (chiL ss n)[k]? = some (l3 ss k) := by simp [chiL, h]
theorem psiL_at (ss : List ByteArray) (mo : ByteArray) (n k : Nat) (h : k < n) : (psiL ss mo n)[k]? = some (l3 ss (steps mo k)) := by simp [psiL, h]
theorem bitAt_le {s : ByteArray} (h : wheel (nb s) = true) (i : Nat) : bitAt s i ≤ 1 := (bitAt_spec h i).2.2
theorem steps_le {mo : ByteArray} (h : wheel (nb mo) = true) (i : Nat) : steps mo i ≤ i := by
  induction i with
  | zero => exact Nat.le_refl _
  | succ i ih => have := bitAt_le h i; show steps mo i + bitAt mo i ≤ i + 1; omega
theorem l3_bd {ss : List ByteArray} (h : wheels3 ss = true) (i : Nat) : 97 ≤ l3 ss i ∧ l3 ss i ≤ 104 := by
  obtain ⟨x, y, z, rfl, hx, hy, hz⟩ := wheels3_yes h
  have := bitAt_le hx i
  have := bitAt_le hy i
  have := bitAt_le hz i
  show 97 ≤ let3 x y z i ∧ let3 x y z i ≤ 104
  unfold let3
  omega
theorem chiL_lt {ss : List ByteArray} (h : wheels3 ss = true) (n : Nat) : ∀ x ∈ chiL ss n, x < 256 := by
  intro x hx
  simp only [chiL, List.mem_map] at hx
  obtain ⟨i, _, rfl⟩ := hx
  have := l3_bd h i
  omega
theorem psiL_lt {ss : List ByteArray} (h : wheels3 ss = true) (mo : ByteArray) (n : Nat) : ∀ x ∈ psiL ss mo n, x < 256 := by
  intro x hx
  simp only [psiL, List.mem_map] at hx
  obtain ⟨i, _, rfl⟩ := hx
  have := l3_bd h (steps mo i)
  omega
def ct (chi psi : List ByteArray) (mo : ByteArray) (z : Int) : List Nat := if tfit chi psi mo z then chiL chi z.toNat else []
def pt (chi psi : List ByteArray) (mo : ByteArray) (z : Int) : List Nat := if tfit chi psi mo z then psiL psi mo z.toNat else []
theorem tfit_yes {chi psi : List ByteArray} {mo : ByteArray} {z : Int} (h : tfit chi psi mo z = true) : wheels3 chi = true ∧ wheels3 psi = true ∧ wheel (nb mo) = true ∧ ∃ n : Nat, z = (n : Int) ∧ n ≤ 200 := by
  simp only [tfit, tvld, Bool.and_eq_true, decide_eq_true_eq] at h
  exact ⟨h.1.1.1, h.1.1.2, h.1.2, z.toNat, by omega, by omega⟩
/-- One byte is appended to a row of the call's own. -/
theorem wpList_append_u8 {ops : Array Oper} {rest : List Oper} {o : Oper} {a : Act} {Q : Exit → Act → World → Prop} (w : World) (hgd : o.guard = none) (s x : Operand)
    (ho : o.op = .call { callee := .builtin .append, args := #[s, x], argTypes := #[22, 22] }) (B : Nat) (v : Value) (n : Nat) (zs : List Nat) (z : Nat)
    (hown : w.ownsRow B 5 1 v n (bcells zs)) (hs : a.eval s = v) (hx : a.eval x = .slice (some ⟨w.heap.size, 0, none⟩) 1 1) (hn : n ≤ 1000000) (hB : B ≤ w.heap.size)
    (h : ∀ v' w', w'.ownsRow B 5 1 v' (n + 1) (bcells (zs ++ [z])) → Below B w w' → wpList Try.prog ops Q rest (a.put o.dst v') w') :
    wpList Try.prog ops Q (o :: rest) a (w.alloc (.cells #[.int .u8 (z : Int)] 5)) := by
  obtain ⟨i0, hi, hz0, hz1, hz2⟩ := info_parts info_u8T
  refine wpList_append_own _ hgd s x 22 ho B 5 i0 (.int .u8 0) 1 1 Try.underlying22 hi hz0 hz1 hz2 rfl (by decide) v n (bcells zs) hs (hown.alloc _) ⟨w.heap.size, 0, none⟩ 1 1 [.int .u8 (z : Int)] hx rfl ?_ ?_ ?_ ?_ ?_ ?_
  · intro j u hj
    match j, hj with
    | 0, hj =>
      simp at hj
      subst hj
      rw [show (⟨w.heap.size, 0, none⟩ : Addr).add 0 = ⟨w.heap.size, 0, none⟩ from rfl, World.cell?_alloc_mark]
      rfl
  · intro u hu
    simp at hu
    subst hu
    rfl
  · unfold maxLen; omega
  · omega
  · simp; omega
  · intro v' w' hown' hg _
    refine h v' w' (by simpa [bcells] using hown') ?_
    refine Below.grown ((Below.refl _ _).alloc hB _) hg (by simp; omega) (fun k hk => ?_)
    exact (hown.lt k hk).1
theorem make_roomB (n : Nat) (hn : n ≤ 4194304) (w : World) : ∃ w1, (Instr.makeSlice 22 (.int .i64 0) (.int .i64 (n : Int))).run Try.prog w = .ok (.slice (some ⟨w.heap.size, 0, none⟩) 0 n) w1 ∧
    w1.ownsRow w.heap.size 5 1 (.slice (some ⟨w.heap.size, 0, none⟩) 0 n) 0 [] ∧ Below w.heap.size w w1 ∧ w.heap.size < w1.heap.size := by
  obtain ⟨i0, hi, hz0, hz1, hz2⟩ := info_parts info_u8T
  have hr := run_make (P := Try.prog) w 22 5 i0 _ Try.underlying22 hi hz0 .i64 .i64 0 n (by omega) (by omega) (by rw [hz2]; omega) (by omega)
  rw [hz1] at hr
  simp only [Int.toNat_natCast, Nat.mul_one] at hr
  refine ⟨_, hr, World.ownsRow_made w _ n (Nat.le_refl _) (by unfold maxLen; omega) (by simp [madeCells]), (Below.refl _ _).alloc (Nat.le_refl _) _, by simp⟩
theorem brow_buf {w : World} {B n : Nat} {v : Value} {l : List Nat} (h : w.ownsRow B 5 1 v n (bcells l)) (hv : v ≠ .slice none 0 0) : ∃ g c, v = .slice (some ⟨g, 0, none⟩) n c ∧ l.length = n ∧ Buf w g 5 (bcells l) := by
  obtain ⟨hl, h⟩ := h
  rw [bcells_len, Nat.mul_one] at hl
  rcases h with ⟨rfl, rfl⟩ | ⟨g, cap, cur, rfl, hB, hh, hnc, hcm, hcs, ht⟩
  · exact absurd rfl hv
  · refine ⟨g, cap, rfl, hl, cur, 0, 0, hh, .inl (Nat.le_refl _), fun j u hu => ?_⟩
    rw [← ht, List.getElem?_take] at hu
    split at hu
    · rw [← Array.getElem?_toList]; exact hu
    · cases hu
theorem brow_some {w : World} {B n : Nat} {v : Value} {xs : List Value} (h : w.ownsRow B 5 1 v (n + 1) xs) : v ≠ .slice none 0 0 := by
  obtain ⟨hl, h⟩ := h
  rcases h with ⟨_, h0⟩ | ⟨g, cap, cur, rfl, _⟩
  · cases h0
  · intro e; cases e
/-- The block of a machine that is held in a variable. -/
def tcells (A : Option Addr) (n c : Nat) (B : Option Addr) (m d : Nat) (mo : ByteArray) : List Value := [.slice A n c, .slice B m d, .string mo]
theorem tbox (w : World) (A : Option Addr) (n c : Nat) (B : Option Addr) (m d : Nat) (mo : ByteArray) : Buf (w.alloc (.cells #[.slice A n c, .slice B m d, .string mo] 25)) w.heap.size 25 (tcells A n c B m d mo) :=
  Buf.new w _ _ _ (fun j u hu => by simpa [tcells] using hu) 0 0 (.inl (Nat.le_refl _))
set_option maxHeartbeats 1000000 in
theorem impl_ChiTape (A B : Option Addr) (n c m d : Nat) (chi psi : List ByteArray) (mo : ByteArray) (z : Int) (w : World) (h : Mach w A n B m chi psi mo) :
    Calls Try.prog 11 #[.agg #[.slice A n c, .slice B m d, .string mo], .int .i64 z] w (RetSB w (ct chi psi mo z) (tfit chi psi mo z)) := by
  have H := Lib.hid (h.next (belA w (.cells #[.slice A n c, .slice B m d, .string mo] 25)))
  have HB := Lib.hid (belA w (.cells #[.slice A n c, .slice B m d, .string mo] 25))
  have hln := h.lc
  clear h
  cases hv : tfit chi psi mo z
  · have hr : ct chi psi mo z = [] := by rw [ct, hv]; rfl
    rw [hr]
    clear hr
    go_enter Try.func11, Try.ntmps11
    go_wp2_with fail
    refine (impl_teleLength _ _ _ _ _ _ _ _ _ _ _ H.out).mono ?_
    rintro e v1 ⟨rfl, hb1⟩
    go_wp2_with fail
    go_ret2
    exact ⟨ByteArray.empty, rfl, rfl, bthen HB.out hb1⟩
  · obtain ⟨hc3, hp3, hmo, N, rfl, hN⟩ := tfit_yes hv
    have hr : ct chi psi mo (N : Int) = chiL chi N := by rw [ct, hv]; rfl
    rw [hr]
    clear hr
    obtain ⟨x, y, z, rfl, hx, hy, hz⟩ := wheels3_yes hc3
    have hn3 : n = 3 := hln.symm
    subst hn3
    have HX := Lib.hid hx
    have HY := Lib.hid hy
    have HZ := Lib.hid hz
    have HC := Lib.hid hc3
    have hT := tbox w A 3 c B m d mo
    clear hx hy hz hc3 hp3 hmo hln
    go_enter Try.func11, Try.ntmps11
    go_wp2_with fail
    refine (impl_teleLength _ _ _ _ _ _ _ _ _ _ _ H.out).mono ?_
    rintro e v1 ⟨rfl, hb1⟩
    have hB1 := bthen HB.out hb1
    have hT1 := hT.next hb1
    have hM1 := H.out.next hb1
    have hS1 := hM1.sc
    clear hT hM1
    obtain ⟨w1, hmk, hrow, hbel, hsz⟩ := make_roomB N (by omega) v1
    go_wp2_with fail
    go_loopw [6, 15] (fun o i wr => ∃ k : Nat, k ≤ N ∧ i = .int .i64 k ∧ o ≠ .slice none 0 0 ∧ wr.ownsRow v1.heap.size 5 1 o k (bcells ((chiL [x, y, z] N).take k)) ∧ Below v1.heap.size v1 wr) (fun _ i _ => N - (intOf i).toNat)
    case atStart => exact ⟨0, Nat.zero_le _, rfl, (fun e => by cases e), hrow, hbel⟩
    case round =>
      obtain ⟨k, hk, rfl, hnn, hrk, hbe⟩ := hrel
      clear hmk hrow hbel hsz
      have hB2 := bthen hB1 hbe
      by_cases hlt : k < N
      · have hS2 := hS1.next hbe
        have hc0 : wr.cell? ⟨w.heap.size, 0, none⟩ = some (.slice A 3 c) := (hT1.next hbe).cell (j := 0) rfl
        have Hj := Lib.hid (take_snoc _ _ _ (chiL_at [x, y, z] N k hlt))
        have Hrk := Lib.hid hrk
        have HT1 := Lib.hid hT1
        clear hrk hT1 hnn
        go_wp2_with fail
        refine (impl_bitsAt _ _ x y z k _ hS2 HX.out HY.out HZ.out (by omega)).mono ?_
        rintro e v2 ⟨rfl, rfl⟩
        go_wp2_with (at_builtin; go_must (refine wpList_append_u8 wr rfl _ _ rfl v1.heap.size _ k _ (let3 x y z k) Hrk.out rfl rfl (by omega) hbe.size ?_); intro v' w1 hown' hbel'; have Ho := Lib.hid hown'; clear hown')
        go_roundw
        case rel => exact ⟨k + 1, by omega, by go_num, brow_some Ho.out, by rw [Hj.out]; exact Ho.out, hbe.trans hbel'⟩
        case measure => simp [intOf]; omega
      · have hkn : k = N := by omega
        rw [hkn, List.take_of_length_le (by rw [chiL_len]; exact Nat.le_refl _)] at hrk
        obtain ⟨g, cp, rfl, hlen, hbuf⟩ := brow_buf hrk hnn
        obtain ⟨r, hr, hrun⟩ := of_bytes wr g N cp (chiL [x, y, z] N) hbuf hlen (chiL_lt HC.out N)
        have Hr := Lib.hid hr
        clear hr hrk hnn
        go_wp2
        go_ret2
        exact ⟨r, rfl, Hr.out, hB2⟩
set_option maxHeartbeats 1000000 in
theorem spec_ChiTape (A B : Option Addr) (n c m d : Nat) (chi psi : List ByteArray) (mo : ByteArray) (z : Int) (w : World) (h : Mach w A n B m chi psi mo) :
    Calls Try.prog 23 #[.agg #[.slice A n c, .slice B m d, .string mo], .int .i64 z] w (RetSB w (ct chi psi mo z) (tfit chi psi mo z)) := by
  have H := Lib.hid (h.next (belA w (.cells #[.slice A n c, .slice B m d, .string mo] 25)))
  have HB := Lib.hid (belA w (.cells #[.slice A n c, .slice B m d, .string mo] 25))
  have hln := h.lc
  clear h
  cases hv : tfit chi psi mo z
  · have hr : ct chi psi mo z = [] := by rw [ct, hv]; rfl
    rw [hr]
    clear hr
    go_enter Try.func23, Try.ntmps23
    go_wp2_with fail
    refine (spec_l16Fits _ _ _ _ _ _ _ _ _ _ _ H.out).mono ?_
    rintro e v1 ⟨rfl, hb1⟩
    go_wp2_with fail
    go_ret2
    exact ⟨ByteArray.empty, rfl, rfl, bthen HB.out hb1⟩
  · obtain ⟨hc3, hp3, hmo, N, rfl, hN⟩ := tfit_yes hv
    have hr : ct chi psi mo (N : Int) = chiL chi N := by rw [ct, hv]; rfl
    rw [hr]
    clear hr
    obtain ⟨x, y, z, rfl, hx, hy, hz⟩ := wheels3_yes hc3
    have hn3 : n = 3 := hln.symm
    subst hn3
    have HX := Lib.hid hx
    have HY := Lib.hid hy
    have HZ := Lib.hid hz
    have hT := tbox w A 3 c B m d mo
    clear hx hy hz hc3 hp3 hmo hln
    go_enter Try.func23, Try.ntmps23
    go_wp2_with fail
    refine (spec_l16Fits _ _ _ _ _ _ _ _ _ _ _ H.out).mono ?_
    rintro e v1 ⟨rfl, hb1⟩
    have hB1 := bthen HB.out hb1
    have hT1 := hT.next hb1
    have hM1 := H.out.next hb1
    have hS1 := hM1.sc
    clear hT hM1
    go_wp2_with fail
    go_loopw [6, 7] (fun o i wr => ∃ (k : Nat) (s : ByteArray), k ≤ N ∧ i = .int .i64 k ∧ o = .string s ∧ nb s = (chiL [x, y, z] N).take k ∧ Below v1.heap.size v1 wr) (fun _ i _ => N - (intOf i).toNat)
    case atStart => exact ⟨0, ByteArray.empty, Nat.zero_le _, rfl, rfl, rfl, Below.refl _ _⟩
    case round =>
      obtain ⟨k, s, hk, rfl, rfl, hs, hbe⟩ := hrel
      have hB2 := bthen hB1 hbe
      have hss : s.size ≤ 1000 := by rw [← nb_length, hs, List.length_take]; omega
      have Hs := Lib.hid hs
      clear hs
      by_cases hlt : k < N
      · have hS2 := hS1.next hbe
        have hc0 : wr.cell? ⟨w.heap.size, 0, none⟩ = some (.slice A 3 c) := (hT1.next hbe).cell (j := 0) rfl
        have Hj := Lib.hid (take_snoc _ _ _ (chiL_at [x, y, z] N k hlt))
        have HT1 := Lib.hid hT1
        clear hT1
        go_wp2_with fail
        refine (spec_l16Letter _ _ x y z k _ hS2 HX.out HY.out HZ.out (by omega)).mono ?_
        rintro e v2 ⟨r, rfl, hr, hb2⟩
        have hrs : r.size ≤ 1 := by rw [← nb_length, hr]; simp
        have Hr := Lib.hid hr
        clear hr
        go_wp2
        go_roundw
        case rel => exact ⟨k + 1, _, by omega, by go_num, rfl, by rw [nb_append, Hs.out, Hr.out]; exact Hj.out.symm, bthenB hbe hb2 hbe.size⟩
        case measure => simp [intOf]; omega
      · go_wp2
        go_ret2
        exact ⟨s, rfl, by rw [Hs.out, List.take_of_length_le (by rw [chiL_len]; omega)], hB2⟩
end Go.Proofs.Ytibjiadgmlpceaa
