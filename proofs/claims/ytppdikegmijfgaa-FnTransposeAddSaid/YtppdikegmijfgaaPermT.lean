/- Permutations as arrays. No condition. -/
import Derived.Test.YtppdikegmijfgaaWords
import Derived.Test.YtppdikegmijfgaaConv
import Derived.Test.YtppdikegmijfgaaInts
import Derived.Deep.MidRow
set_option linter.unusedVariables false
namespace Go.Proofs.Ytppdikegmijfgaa
open Go.RowKit

def zc10 : Array Value := Array.replicate 10 (.int .u8 0)
theorem zv10 (w : World) : (zeroValue 44).run Try.prog w = .ok (.agg zc10) w := by kernel_rfl
theorem zeroes10 : zc10.toList = bcells (List.replicate 10 0) := by kernel_rfl
theorem zero10 (w : World) : Buf (w.alloc (.cells zc10 44)) w.heap.size 44 (bcells (List.replicate 10 0)) :=
  Buf.new w _ _ _ (fun j u hu => by rw [← Array.getElem?_toList, zeroes10]; exact hu) 0 0 (.inl (Nat.le_refl _))
theorem info_perm : (Try.prog.info? 44).map (·.size) = some 10 := by kernel_rfl
theorem Buf.range {w : World} {g : Nat} {t : TypeId} {xs : List Value} (h : Buf w g t xs) : w.rangeAt g 0 xs := fun j v hv => by rw [Nat.zero_add]; exact h.cell hv
theorem permOf_results (tmps : Array Value) (w : World) (g : Nat) (cs : List Value) (b : Value) (h2 : tmps[2]?.getD undef = .pointer (some ⟨g, 0, none⟩)) (h3 : tmps[3]?.getD undef = b) (hc : w.rangeAt g 0 cs) (hl : cs.length = 10) :
    (results Try.f27 tmps).run Try.prog w = .ok (.tuple #[.agg cs.toArray, b]) w := by
  have hlv := run_loadVar_mid (P := Try.prog) w g 0 44 cs _ hc Try.underlying44 rfl (by rw [hl]; exact info_perm)
  simp [results, h2, h3, hlv, asAddr]
set_option maxHeartbeats 1000000 in
theorem impl_permOf_no (p : ByteArray) (w : World) (hm : p.size ≤ maxLen) (h : p.size ≠ 10) :
    Calls Try.prog 27 #[.string p] w fun e w' => e = .returned (.tuple #[.agg (bcells (List.replicate 10 0)).toArray, .bool false]) ∧ Below w.heap.size w w' := by
  have hm' := hm
  unfold maxLen at hm'
  have h10 : ((p.size : Int) != 10) = true := by rw [bne_iff_ne]; omega
  have hzv := zv10
  have hb1 := zero10 w
  have hbe1 : Below w.heap.size w (w.alloc (.cells zc10 44)) := (Below.refl _ _).alloc (Nat.le_refl _) _
  have hs1 : (w.alloc (.cells zc10 44)).heap.size = w.heap.size + 1 := by simp
  generalize hv1 : w.alloc (.cells zc10 44) = w1 at hb1 hbe1 hs1
  have hb2 := zero10 w1
  have hb1 := hb1.alloc (.cells zc10 44)
  have hbe2 := bthen hbe1 ((Below.refl w1.heap.size w1).alloc (Nat.le_refl _) (.cells zc10 44))
  generalize hv2 : w1.alloc (.cells zc10 44) = w2 at hb1 hb2 hbe2
  have hne : w1.heap.size ≠ w.heap.size := by omega
  have c0 := hb2.cell (j := 0) rfl
  have d0 := hb1.cell (j := 0) rfl
  have f0 := hb1.free (j := 0) (by decide)
  have c1 := hb2.cell (j := 1) rfl
  have d1 := hb1.cell (j := 1) rfl
  have f1 := hb1.free (j := 1) (by decide)
  have c2 := hb2.cell (j := 2) rfl
  have d2 := hb1.cell (j := 2) rfl
  have f2 := hb1.free (j := 2) (by decide)
  have c3 := hb2.cell (j := 3) rfl
  have d3 := hb1.cell (j := 3) rfl
  have f3 := hb1.free (j := 3) (by decide)
  have c4 := hb2.cell (j := 4) rfl
  have d4 := hb1.cell (j := 4) rfl
  have f4 := hb1.free (j := 4) (by decide)
  have c5 := hb2.cell (j := 5) rfl
  have d5 := hb1.cell (j := 5) rfl
  have f5 := hb1.free (j := 5) (by decide)
  have c6 := hb2.cell (j := 6) rfl
  have d6 := hb1.cell (j := 6) rfl
  have f6 := hb1.free (j := 6) (by decide)
  have c7 := hb2.cell (j := 7) rfl
  have d7 := hb1.cell (j := 7) rfl
  have f7 := hb1.free (j := 7) (by decide)
  have c8 := hb2.cell (j := 8) rfl
  have d8 := hb1.cell (j := 8) rfl
  have f8 := hb1.free (j := 8) (by decide)
  have c9 := hb2.cell (j := 9) rfl
  have d9 := hb1.cell (j := 9) rfl
  have f9 := hb1.free (j := 9) (by decide)
  have Hb1 := Lib.hid hb1
  have Hb2 := Lib.hid hb2
  clear hb1 hb2 h hs1
  go_enter Try.func27, Try.ntmps27
  go_wp2_with fail
  try simp only [Exit.inBlock, Exit.then]
  have hB : Buf (((((((((((w2.setCell ⟨w.heap.size, 0, none⟩ (.int .u8 0)).setCell ⟨w.heap.size, 1, none⟩ (.int .u8 0)).setCell ⟨w.heap.size, 2, none⟩ (.int .u8 0)).setCell ⟨w.heap.size, 3, none⟩ (.int .u8 0)).setCell ⟨w.heap.size, 4, none⟩ (.int .u8 0)).setCell ⟨w.heap.size, 5, none⟩ (.int .u8 0)).setCell ⟨w.heap.size, 6, none⟩ (.int .u8 0)).setCell ⟨w.heap.size, 7, none⟩ (.int .u8 0)).setCell ⟨w.heap.size, 8, none⟩ (.int .u8 0)).setCell ⟨w.heap.size, 9, none⟩ (.int .u8 0))) w.heap.size 44 (bcells (List.replicate 10 0)) :=
    ((((((((((Hb1.out.set 0 _).set 1 _).set 2 _).set 3 _).set 4 _).set 5 _).set 6 _).set 7 _).set 8 _).set 9 _)
  refine bodyPost_ret (permOf_results _ _ w.heap.size _ _ rfl rfl hB.range rfl) rfl ?_
  exact ⟨rfl, ((((((((((hbe2.setCell (Nat.le_refl _) _).setCell (Nat.le_refl _) _).setCell (Nat.le_refl _) _).setCell (Nat.le_refl _) _).setCell (Nat.le_refl _) _).setCell (Nat.le_refl _) _).setCell (Nat.le_refl _) _).setCell (Nat.le_refl _) _).setCell (Nat.le_refl _) _).setCell (Nat.le_refl _) _)⟩
/-- The numbers of the letters. -/
def dig (l : List Nat) : List Nat := l.map fun c => c - 97
theorem dig_at {l : List Nat} {k c : Nat} (h : l[k]? = some c) : (dig l)[k]? = some (c - 97) := by simp [dig, h]
theorem dig_len (l : List Nat) : (dig l).length = l.length := by simp [dig]
/-- Whether a letter has been seen. -/
def tst (z c : Nat) : Bool := bits BinOp.and IntKind.i64 ((z : Int) / 2 ^ (c - 97)) 1 == 1
def sK (l : List Nat) : Nat → Nat
  | 0 => 0
  | k + 1 => sK l k ||| 2 ^ (l.getD k 0 - 97)
def okK (l : List Nat) : Nat → Bool
  | 0 => true
  | k + 1 => okK l k && (isL (l.getD k 0) && !tst (sK l k) (l.getD k 0))
def pOk (l : List Nat) : Bool := decide (l.length = 10) && okK l 10
def pL (l : List Nat) : List Nat := if pOk l then dig l else List.replicate 10 0
theorem okK_false {l : List Nat} {k : Nat} (h : okK l (k + 1) = false) : ∀ m, k + 1 ≤ m → okK l m = false
  | 0, hm => absurd hm (by omega)
  | m + 1, hm => by
    rcases Nat.lt_or_ge k m with h1 | h1
    · rw [okK, okK_false h m (by omega)]; rfl
    · obtain rfl : k = m := by omega
      exact h
theorem okK_yes {l : List Nat} {k c : Nat} (h : okK l k = true) (hc : l[k]? = some c) (hL : isL c = true) (ht : tst (sK l k) c = false) : okK l (k + 1) = true := by
  rw [okK, List.getD_eq_getElem?_getD, hc]
  simp only [Option.getD_some]
  rw [h, hL, ht]; rfl
theorem okK_not {l : List Nat} {k c : Nat} (hc : l[k]? = some c) (h : isL c = false ∨ tst (sK l k) c = true) : okK l (k + 1) = false := by
  rw [okK, List.getD_eq_getElem?_getD, hc]
  simp only [Option.getD_some]
  rcases h with h | h <;> rw [h] <;> simp
theorem sK_succ {l : List Nat} {k c : Nat} (hc : l[k]? = some c) : sK l (k + 1) = sK l k ||| 2 ^ (c - 97) := by
  rw [sK, List.getD_eq_getElem?_getD, hc]; rfl
theorem pow_small {c : Nat} (h : c ≤ 106) : 2 ^ (c - 97) ≤ 512 := Nat.pow_le_pow_right (n := 2) (by omega) (show c - 97 ≤ 9 by omega)
theorem or_small {z c : Nat} (hz : z < 1024) (hc : c ≤ 106) : z ||| 2 ^ (c - 97) < 1024 := Nat.or_lt_two_pow (n := 10) hz (by have := pow_small hc; omega)
theorem ofInt_i64P (a : Nat) (ha : a < 9223372036854775808) : (BitVec.ofInt 64 (a : Int)).toNat = a := by
  rw [BitVec.ofInt_natCast, BitVec.toNat_ofNat]; exact Nat.mod_eq_of_lt (by omega)
theorem or_int {z c : Nat} (hz : z < 1024) (hc : c ≤ 106) : bits BinOp.or IntKind.i64 (z : Int) (wrap64 (2 ^ (c - 97))) = ((z ||| 2 ^ (c - 97) : Nat) : Int) := by
  have hp := pow_small hc
  have hor := or_small hz hc
  have e : ((2 : Int) ^ (c - 97)) = ((2 ^ (c - 97) : Nat) : Int) := by simp
  rw [e]
  generalize 2 ^ (c - 97) = q at hp hor ⊢
  rw [IntWalk.wrap64_in _ (by omega)]
  show IntKind.i64.wrap ((BitVec.ofInt 64 (z : Int) ||| BitVec.ofInt 64 ((q : Nat) : Int)).toNat : Int) = _
  rw [BitVec.toNat_or, ofInt_i64P z (by omega), ofInt_i64P _ (by omega), IntKind.wrap_i64]
  omega
theorem pOk_len {l : List Nat} (h : pOk l = true) : l.length = 10 := by simp only [pOk, Bool.and_eq_true, decide_eq_true_eq] at h; exact h.1
theorem pOk_no {l : List Nat} (h : l.length ≠ 10 ∨ okK l 10 = false) : pOk l = false ∧ pL l = List.replicate 10 0 := by
  have hp : pOk l = false := by
    unfold pOk
    rcases h with h | h
    · rw [decide_eq_false h]; rfl
    · rw [h, Bool.and_false]
  exact ⟨hp, by rw [pL, hp]; rfl⟩
theorem pOk_yes {l : List Nat} (h1 : l.length = 10) (h2 : okK l 10 = true) : pOk l = true ∧ pL l = dig l := by
  have hp : pOk l = true := by unfold pOk; rw [decide_eq_true h1, h2]; rfl
  exact ⟨hp, by rw [pL, hp]; rfl⟩
theorem ten (l : List Nat) (h : l.length = 10) : l = [l.getD 0 0, l.getD 1 0, l.getD 2 0, l.getD 3 0, l.getD 4 0, l.getD 5 0, l.getD 6 0, l.getD 7 0, l.getD 8 0, l.getD 9 0] := by
  match l, h with
  | [a0, a1, a2, a3, a4, a5, a6, a7, a8, a9], _ => rfl
set_option maxHeartbeats 4000000 in
theorem impl_permOf_ten (p : ByteArray) (w : World) (h : p.size = 10) :
    Calls Try.prog 27 #[.string p] w fun e w' => e = .returned (.tuple #[.agg (bcells (pL (nb p))).toArray, .bool (pOk (nb p))]) ∧ Below w.heap.size w w' := by
  have h10 : ((p.size : Int) != 10) = false := by rw [bne_eq_false_iff_eq]; omega
  have Hl : Hid ((nb p).length = 10) := by show _ = _; rw [nb_length]; exact h
  have hp1 : p.size ≤ 10 := by omega
  have hp2 : 10 ≤ p.size := by omega
  have hzv := zv10
  have hb1 := zero10 w
  have hbe1 : Below w.heap.size w (w.alloc (.cells zc10 44)) := (Below.refl _ _).alloc (Nat.le_refl _) _
  have hs1 : (w.alloc (.cells zc10 44)).heap.size = w.heap.size + 1 := by simp
  generalize hv1 : w.alloc (.cells zc10 44) = w1 at hb1 hbe1 hs1
  have hb2 := zero10 w1
  have hb1' := hb1.alloc (.cells zc10 44)
  have hbe2 := bthen hbe1 ((Below.refl w1.heap.size w1).alloc (Nat.le_refl _) (.cells zc10 44))
  generalize hv2 : w1.alloc (.cells zc10 44) = w2 at hb1' hb2 hbe2
  have hne : w1.heap.size ≠ w.heap.size := by omega
  have Hb1 := Lib.hid hb1'
  have Hb2 := Lib.hid hb2
  have hw1 : w.heap.size ≤ w1.heap.size := by omega
  have HL : Hid ((dig (nb p)).length = (List.replicate 10 0).length) := by show _ = _; rw [dig_len, Hl.out]; rfl
  clear hb1 hb1' hb2 h hs1 hbe1
  go_enter Try.func27, Try.ntmps27
  go_wp2_with fail
  clear hzv h10 hv1 hv2
  go_loopw [5, 11] (fun vs i wr => ∃ (k z : Nat), k ≤ 10 ∧ i = .int .i64 k ∧ vs = .int .i64 (z : Int) ∧ z < 1024 ∧ Hid (z = sK (nb p) k) ∧ Hid (okK (nb p) k = true) ∧ Hid (Buf wr w1.heap.size 44 (bcells (mix (dig (nb p)) (List.replicate 10 0) k))) ∧ Hid (Buf wr w.heap.size 44 (bcells (List.replicate 10 0))) ∧ Below w.heap.size w wr) (fun _ i _ => 10 - (intOf i).toNat)
  case atStart => exact ⟨0, 0, Nat.zero_le _, rfl, rfl, by omega, rfl, rfl, (show Buf _ _ _ _ by rw [mix_zero]; exact Hb2.out), Hb1.out, hbe2⟩
  case round =>
    obtain ⟨k, z, hk, rfl, rfl, hz, Hz, Hok, Hbo, Hbr, hbe⟩ := hrel
    clear Hb1 Hb2 hbe2
    by_cases hlt : k < 10
    · obtain ⟨c, hc⟩ : ∃ c, (nb p)[k]? = some c := ⟨_, nb_get? p k (by omega)⟩
      have hpk : p[k].toNat = c := by have := nb_get? p k (by omega); rw [hc] at this; injection this with this; exact this.symm
      have Hc := Lib.hid hc
      clear hc
      cases hL : isL c
      · have Hno : Hid ((.bool (pOk (nb p)) : Value) = .bool false ∧ pL (nb p) = List.replicate 10 0) := by
          have := pOk_no (.inr (okK_false (okK_not Hc.out (.inl hL)) 10 (by omega)))
          exact ⟨by rw [this.1], this.2⟩
        have d0 := Hbr.out.cell (j := 0) rfl
        have f0 := Hbr.out.free (j := 0) (by decide)
        have d1 := Hbr.out.cell (j := 1) rfl
        have f1 := Hbr.out.free (j := 1) (by decide)
        have d2 := Hbr.out.cell (j := 2) rfl
        have f2 := Hbr.out.free (j := 2) (by decide)
        have d3 := Hbr.out.cell (j := 3) rfl
        have f3 := Hbr.out.free (j := 3) (by decide)
        have d4 := Hbr.out.cell (j := 4) rfl
        have f4 := Hbr.out.free (j := 4) (by decide)
        have d5 := Hbr.out.cell (j := 5) rfl
        have f5 := Hbr.out.free (j := 5) (by decide)
        have d6 := Hbr.out.cell (j := 6) rfl
        have f6 := Hbr.out.free (j := 6) (by decide)
        have d7 := Hbr.out.cell (j := 7) rfl
        have f7 := Hbr.out.free (j := 7) (by decide)
        have d8 := Hbr.out.cell (j := 8) rfl
        have f8 := Hbr.out.free (j := 8) (by decide)
        have d9 := Hbr.out.cell (j := 9) rfl
        have f9 := Hbr.out.free (j := 9) (by decide)
        go_wp2_with fail
        refine (impl_isLetter c _).mono ?_
        rintro e v3 ⟨rfl, rfl⟩
        go_wp2_with fail
        try simp only [Exit.inBlock, Exit.then]
        have hB : Buf ((((((((((wr.setCell ⟨w.heap.size, 0, none⟩ (.int .u8 0)).setCell ⟨w.heap.size, 1, none⟩ (.int .u8 0)).setCell ⟨w.heap.size, 2, none⟩ (.int .u8 0)).setCell ⟨w.heap.size, 3, none⟩ (.int .u8 0)).setCell ⟨w.heap.size, 4, none⟩ (.int .u8 0)).setCell ⟨w.heap.size, 5, none⟩ (.int .u8 0)).setCell ⟨w.heap.size, 6, none⟩ (.int .u8 0)).setCell ⟨w.heap.size, 7, none⟩ (.int .u8 0)).setCell ⟨w.heap.size, 8, none⟩ (.int .u8 0)).setCell ⟨w.heap.size, 9, none⟩ (.int .u8 0)) w.heap.size 44 (bcells (List.replicate 10 0)) := ((((((((((Hbr.out.set 0 _).set 1 _).set 2 _).set 3 _).set 4 _).set 5 _).set 6 _).set 7 _).set 8 _).set 9 _)
        rw [Hno.out.1, Hno.out.2]
        refine bodyPost_ret (permOf_results _ _ w.heap.size _ _ rfl rfl hB.range rfl) rfl ?_
        exact ⟨rfl, ((((((((((hbe.setCell (Nat.le_refl _) _).setCell (Nat.le_refl _) _).setCell (Nat.le_refl _) _).setCell (Nat.le_refl _) _).setCell (Nat.le_refl _) _).setCell (Nat.le_refl _) _).setCell (Nat.le_refl _) _).setCell (Nat.le_refl _) _).setCell (Nat.le_refl _) _).setCell (Nat.le_refl _) _)⟩
      · obtain ⟨hc1, hc2⟩ := isL_bd hL
        cases ht : tst z c
        · have ht' : (bits BinOp.and IntKind.i64 ((z : Int) / 2 ^ (c - 97)) 1 == 1) = false := ht
          have hcell : wr.cell? ⟨w1.heap.size, k, none⟩ = some (.int .u8 0) := Hbo.out.cell (bcells_at ((mix_at (dig (nb p)) (List.replicate 10 0) k HL.out (by rw [List.length_replicate]; exact hlt)).trans (by rw [List.getElem?_replicate, if_pos hlt])))
          have hfree := Hbo.out.free (j := k) (by rw [bcells_len, mix_len _ _ _ HL.out]; simp; exact hlt)
          have Hor := Lib.hid (or_int hz hc2)
          have hz2 := or_small hz hc2
          have Hz2 : Hid (z ||| 2 ^ (c - 97) = sK (nb p) (k + 1)) := by show _ = _; rw [sK_succ Hc.out, ← Hz.out]
          have Hok2 : Hid (okK (nb p) (k + 1) = true) := okK_yes Hok.out Hc.out hL (by rw [← Hz.out]; exact ht)
          have Hd := Lib.hid (dig_at Hc.out)
          clear ht
          go_wp2_with fail
          refine (impl_isLetter c _).mono ?_
          rintro e v3 ⟨rfl, rfl⟩
          go_wp2_with fail
          refine (impl_number _ _ (by omega) (by omega)).mono ?_
          rintro e v4 ⟨rfl, rfl⟩
          go_wp2_with fail
          refine (impl_number _ _ (by omega) (by omega)).mono ?_
          rintro e v5 ⟨rfl, rfl⟩
          go_wp2_with fail
          refine (impl_number _ _ (by omega) (by omega)).mono ?_
          rintro e v6 ⟨rfl, rfl⟩
          go_wp2_with fail
          go_roundw
          case rel => exact ⟨k + 1, z ||| 2 ^ (c - 97), by omega, by go_num, by rw [Hor.out], hz2, Hz2.out, Hok2.out, Hbo.out.put HL.out Hd.out (by omega), Hbr.out.far (by show w.heap.size ≠ w1.heap.size; omega) _, hbe.setCell hw1 _⟩
          case measure => simp [intOf]; omega
        · have ht' : (bits BinOp.and IntKind.i64 ((z : Int) / 2 ^ (c - 97)) 1 == 1) = true := ht
          have Hno : Hid ((.bool (pOk (nb p)) : Value) = .bool false ∧ pL (nb p) = List.replicate 10 0) := by
            have := pOk_no (.inr (okK_false (okK_not Hc.out (.inr (by rw [← Hz.out]; exact ht))) 10 (by omega)))
            exact ⟨by rw [this.1], this.2⟩
          clear ht
          have d0 := Hbr.out.cell (j := 0) rfl
          have f0 := Hbr.out.free (j := 0) (by decide)
          have d1 := Hbr.out.cell (j := 1) rfl
          have f1 := Hbr.out.free (j := 1) (by decide)
          have d2 := Hbr.out.cell (j := 2) rfl
          have f2 := Hbr.out.free (j := 2) (by decide)
          have d3 := Hbr.out.cell (j := 3) rfl
          have f3 := Hbr.out.free (j := 3) (by decide)
          have d4 := Hbr.out.cell (j := 4) rfl
          have f4 := Hbr.out.free (j := 4) (by decide)
          have d5 := Hbr.out.cell (j := 5) rfl
          have f5 := Hbr.out.free (j := 5) (by decide)
          have d6 := Hbr.out.cell (j := 6) rfl
          have f6 := Hbr.out.free (j := 6) (by decide)
          have d7 := Hbr.out.cell (j := 7) rfl
          have f7 := Hbr.out.free (j := 7) (by decide)
          have d8 := Hbr.out.cell (j := 8) rfl
          have f8 := Hbr.out.free (j := 8) (by decide)
          have d9 := Hbr.out.cell (j := 9) rfl
          have f9 := Hbr.out.free (j := 9) (by decide)
          go_wp2_with fail
          refine (impl_isLetter c _).mono ?_
          rintro e v3 ⟨rfl, rfl⟩
          go_wp2_with fail
          refine (impl_number _ _ (by omega) (by omega)).mono ?_
          rintro e v4 ⟨rfl, rfl⟩
          go_wp2_with fail
          try simp only [Exit.inBlock, Exit.then]
          have hB : Buf ((((((((((wr.setCell ⟨w.heap.size, 0, none⟩ (.int .u8 0)).setCell ⟨w.heap.size, 1, none⟩ (.int .u8 0)).setCell ⟨w.heap.size, 2, none⟩ (.int .u8 0)).setCell ⟨w.heap.size, 3, none⟩ (.int .u8 0)).setCell ⟨w.heap.size, 4, none⟩ (.int .u8 0)).setCell ⟨w.heap.size, 5, none⟩ (.int .u8 0)).setCell ⟨w.heap.size, 6, none⟩ (.int .u8 0)).setCell ⟨w.heap.size, 7, none⟩ (.int .u8 0)).setCell ⟨w.heap.size, 8, none⟩ (.int .u8 0)).setCell ⟨w.heap.size, 9, none⟩ (.int .u8 0)) w.heap.size 44 (bcells (List.replicate 10 0)) := ((((((((((Hbr.out.set 0 _).set 1 _).set 2 _).set 3 _).set 4 _).set 5 _).set 6 _).set 7 _).set 8 _).set 9 _)
          rw [Hno.out.1, Hno.out.2]
          refine bodyPost_ret (permOf_results _ _ w.heap.size _ _ rfl rfl hB.range rfl) rfl ?_
          exact ⟨rfl, ((((((((((hbe.setCell (Nat.le_refl _) _).setCell (Nat.le_refl _) _).setCell (Nat.le_refl _) _).setCell (Nat.le_refl _) _).setCell (Nat.le_refl _) _).setCell (Nat.le_refl _) _).setCell (Nat.le_refl _) _).setCell (Nat.le_refl _) _).setCell (Nat.le_refl _) _).setCell (Nat.le_refl _) _)⟩
    · have hk10 : k = 10 := by omega
      have Hyes : Hid ((.bool (pOk (nb p)) : Value) = .bool true ∧ pL (nb p) = dig (nb p)) := by
        have := pOk_yes Hl.out (by rw [← hk10]; exact Hok.out)
        exact ⟨by rw [this.1], this.2⟩
      have hbo := Hbo.out
      rw [hk10, mix_end HL.out (by rw [dig_len, Hl.out])] at hbo
      have Hten := Lib.hid (ten (dig (nb p)) (by rw [dig_len, Hl.out]))
      clear hk10
      generalize dig (nb p) = D at *
      have c0 : wr.cell? ⟨w1.heap.size, 0, none⟩ = some (.int .u8 ((D.getD 0 0 : Nat) : Int)) := hbo.cell (bcells_at (by rw [Hten.out]; rfl))
      have c1 : wr.cell? ⟨w1.heap.size, 1, none⟩ = some (.int .u8 ((D.getD 1 0 : Nat) : Int)) := hbo.cell (bcells_at (by rw [Hten.out]; rfl))
      have c2 : wr.cell? ⟨w1.heap.size, 2, none⟩ = some (.int .u8 ((D.getD 2 0 : Nat) : Int)) := hbo.cell (bcells_at (by rw [Hten.out]; rfl))
      have c3 : wr.cell? ⟨w1.heap.size, 3, none⟩ = some (.int .u8 ((D.getD 3 0 : Nat) : Int)) := hbo.cell (bcells_at (by rw [Hten.out]; rfl))
      have c4 : wr.cell? ⟨w1.heap.size, 4, none⟩ = some (.int .u8 ((D.getD 4 0 : Nat) : Int)) := hbo.cell (bcells_at (by rw [Hten.out]; rfl))
      have c5 : wr.cell? ⟨w1.heap.size, 5, none⟩ = some (.int .u8 ((D.getD 5 0 : Nat) : Int)) := hbo.cell (bcells_at (by rw [Hten.out]; rfl))
      have c6 : wr.cell? ⟨w1.heap.size, 6, none⟩ = some (.int .u8 ((D.getD 6 0 : Nat) : Int)) := hbo.cell (bcells_at (by rw [Hten.out]; rfl))
      have c7 : wr.cell? ⟨w1.heap.size, 7, none⟩ = some (.int .u8 ((D.getD 7 0 : Nat) : Int)) := hbo.cell (bcells_at (by rw [Hten.out]; rfl))
      have c8 : wr.cell? ⟨w1.heap.size, 8, none⟩ = some (.int .u8 ((D.getD 8 0 : Nat) : Int)) := hbo.cell (bcells_at (by rw [Hten.out]; rfl))
      have c9 : wr.cell? ⟨w1.heap.size, 9, none⟩ = some (.int .u8 ((D.getD 9 0 : Nat) : Int)) := hbo.cell (bcells_at (by rw [Hten.out]; rfl))
      have d0 := Hbr.out.cell (j := 0) rfl
      have f0 := Hbr.out.free (j := 0) (by decide)
      have d1 := Hbr.out.cell (j := 1) rfl
      have f1 := Hbr.out.free (j := 1) (by decide)
      have d2 := Hbr.out.cell (j := 2) rfl
      have f2 := Hbr.out.free (j := 2) (by decide)
      have d3 := Hbr.out.cell (j := 3) rfl
      have f3 := Hbr.out.free (j := 3) (by decide)
      have d4 := Hbr.out.cell (j := 4) rfl
      have f4 := Hbr.out.free (j := 4) (by decide)
      have d5 := Hbr.out.cell (j := 5) rfl
      have f5 := Hbr.out.free (j := 5) (by decide)
      have d6 := Hbr.out.cell (j := 6) rfl
      have f6 := Hbr.out.free (j := 6) (by decide)
      have d7 := Hbr.out.cell (j := 7) rfl
      have f7 := Hbr.out.free (j := 7) (by decide)
      have d8 := Hbr.out.cell (j := 8) rfl
      have f8 := Hbr.out.free (j := 8) (by decide)
      have d9 := Hbr.out.cell (j := 9) rfl
      have f9 := Hbr.out.free (j := 9) (by decide)
      clear hbo
      go_wp2_with fail
      try simp only [Exit.inBlock, Exit.then]
      have hB : Buf ((((((((((wr.setCell ⟨w.heap.size, 0, none⟩ (.int .u8 ((D.getD 0 0 : Nat) : Int))).setCell ⟨w.heap.size, 1, none⟩ (.int .u8 ((D.getD 1 0 : Nat) : Int))).setCell ⟨w.heap.size, 2, none⟩ (.int .u8 ((D.getD 2 0 : Nat) : Int))).setCell ⟨w.heap.size, 3, none⟩ (.int .u8 ((D.getD 3 0 : Nat) : Int))).setCell ⟨w.heap.size, 4, none⟩ (.int .u8 ((D.getD 4 0 : Nat) : Int))).setCell ⟨w.heap.size, 5, none⟩ (.int .u8 ((D.getD 5 0 : Nat) : Int))).setCell ⟨w.heap.size, 6, none⟩ (.int .u8 ((D.getD 6 0 : Nat) : Int))).setCell ⟨w.heap.size, 7, none⟩ (.int .u8 ((D.getD 7 0 : Nat) : Int))).setCell ⟨w.heap.size, 8, none⟩ (.int .u8 ((D.getD 8 0 : Nat) : Int))).setCell ⟨w.heap.size, 9, none⟩ (.int .u8 ((D.getD 9 0 : Nat) : Int))) w.heap.size 44 (bcells [D.getD 0 0, D.getD 1 0, D.getD 2 0, D.getD 3 0, D.getD 4 0, D.getD 5 0, D.getD 6 0, D.getD 7 0, D.getD 8 0, D.getD 9 0]) := ((((((((((Hbr.out.set 0 _).set 1 _).set 2 _).set 3 _).set 4 _).set 5 _).set 6 _).set 7 _).set 8 _).set 9 _)
      rw [Hyes.out.1, Hyes.out.2]
      refine bodyPost_ret (permOf_results _ _ w.heap.size _ _ rfl rfl hB.range rfl) rfl ?_
      exact ⟨by rw [← Hten.out]; first | rfl | kernel_rfl, ((((((((((hbe.setCell (Nat.le_refl _) _).setCell (Nat.le_refl _) _).setCell (Nat.le_refl _) _).setCell (Nat.le_refl _) _).setCell (Nat.le_refl _) _).setCell (Nat.le_refl _) _).setCell (Nat.le_refl _) _).setCell (Nat.le_refl _) _).setCell (Nat.le_refl _) _).setCell (Nat.le_refl _) _)⟩
theorem impl_permOf (p : ByteArray) (w : World) (hm : p.size ≤ maxLen) :
    Calls Try.prog 27 #[.string p] w fun e w' => e = .returned (.tuple #[.agg (bcells (pL (nb p))).toArray, .bool (pOk (nb p))]) ∧ Below w.heap.size w w' := by
  by_cases h : p.size = 10
  · exact impl_permOf_ten p w h
  · have := pOk_no (l := nb p) (.inl (by rw [nb_length]; exact h))
    rw [this.1, this.2]
    exact impl_permOf_no p w hm h
end Go.Proofs.Ytppdikegmijfgaa
