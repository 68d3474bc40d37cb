/- The library's stable sort of at most twelve places by the letters of a key. No condition. -/
import Derived.Test.YtppdikegmijfgaaPlainK
import Derived.Test.YtppdikegmijfgaaUndo
import Derived.Test.YtppdikegmijfgaaConv
import Derived.Deep.QuietTactic
import Derived.BigQuiet
import Derived.BigRegion
set_option linter.unusedVariables false
namespace Go.Proofs.Ytppdikegmijfgaa
open Go.RowKit

def cfI (x y : Int) : Int := if x < y then -1 else if y < x then 1 else 0
theorem cmp_isNaN (x : Int) (w : World) : Calls Try.prog 55 #[.int .u8 x] w fun e w' => e = .returned (.bool false) ∧ w = w' := by
  have hx : (x != x) = false := by simp
  go_enter Try.func55, Try.ntmps55
  go_wp2_with fail
  go_ret
  exact ⟨rfl, rfl⟩
theorem cmp_Compare (x y : Int) (w : World) : Calls Try.prog 49 #[.int .u8 x, .int .u8 y] w fun e w' => e = .returned (.int .i64 (cfI x y)) ∧ w' = w := by
  unfold cfI
  by_cases h1 : x < y
  · rw [if_pos h1]
    go_enter Try.func49, Try.ntmps49
    go_wp2_with fail
    refine (cmp_isNaN _ _).mono ?_
    rintro e v1 ⟨rfl, rfl⟩
    go_wp2_with fail
    refine (cmp_isNaN _ _).mono ?_
    rintro e v2 ⟨rfl, rfl⟩
    go_wp2_with fail
    go_ret
    exact ⟨rfl, rfl⟩
  · rw [if_neg h1]
    by_cases h2 : y < x
    · rw [if_pos h2]
      go_enter Try.func49, Try.ntmps49
      go_wp2_with fail
      refine (cmp_isNaN _ _).mono ?_
      rintro e v1 ⟨rfl, rfl⟩
      go_wp2_with fail
      refine (cmp_isNaN _ _).mono ?_
      rintro e v2 ⟨rfl, rfl⟩
      go_wp2_with fail
      go_ret
      exact ⟨rfl, rfl⟩
    · rw [if_neg h2]
      go_enter Try.func49, Try.ntmps49
      go_wp2_with fail
      refine (cmp_isNaN _ _).mono ?_
      rintro e v1 ⟨rfl, rfl⟩
      go_wp2_with fail
      refine (cmp_isNaN _ _).mono ?_
      rintro e v2 ⟨rfl, rfl⟩
      go_wp2_with fail
      go_ret
      exact ⟨rfl, rfl⟩
theorem impl_KeyCmp (key : ByteArray) (a b g : Nat) (w : World) (hg : w.cell? ⟨g, 0, none⟩ = some (.string key)) (ha : a < key.size) (hb : b < key.size) :
    Calls Try.prog 48 #[.int .i64 (a : Int), .int .i64 (b : Int), .pointer (some ⟨g, 0, none⟩)] w fun e w' => e = .returned (.int .i64 (cfI (kv (nb key) (a : Int) : Int) (kv (nb key) (b : Int) : Int))) ∧ ∃ q, w' = w.drewN q := by
  have ka : ((key[a].toNat : Nat) : Int) = ((kv (nb key) (a : Int) : Nat) : Int) := by
    rw [kv, Int.toNat_natCast, List.getD_eq_getElem?_getD, nb_get? key a ha]; rfl
  have kb : ((key[b].toNat : Nat) : Int) = ((kv (nb key) (b : Int) : Nat) : Int) := by
    rw [kv, Int.toNat_natCast, List.getD_eq_getElem?_getD, nb_get? key b hb]; rfl
  have haI : (a : Int) < (key.size : Int) := by omega
  have hbI : (b : Int) < (key.size : Int) := by omega
  have Ka := Lib.hid ka
  have Kb := Lib.hid kb
  clear ka kb
  go_enter Try.func48, Try.ntmps48
  go_wp2_with fail
  go_quiet (first | (go_at_call 49; refine Calls.quiet_of_same (cmp_Compare _ _ _)))
  go_wp2_with fail
  go_ret
  exact ⟨by rw [← Ka.out, ← Kb.out]; rfl, _, rfl⟩
theorem sink_start {S : List Int} {i n : Nat} (hS : S.length = i) (hi : i < n) : S ++ (iota n).drop i = sink S (i : Int) ((iota n).drop (i + 1)) i := by
  unfold sink
  have h := iota_at n i hi
  obtain ⟨hl, he⟩ := List.getElem?_eq_some_iff.1 h
  rw [List.drop_eq_getElem_cons hl, he, List.take_of_length_le (by omega), show List.drop i S = [] from List.drop_eq_nil_of_le (by omega)]
  rfl
theorem Kept.drewN {w wr : World} {lo hi : Nat} (h : Kept w wr lo hi) (q : Nat) : Kept w (wr.drewN q) lo hi := ⟨h.os, h.tape, h.output, h.size, h.block⟩
theorem Kept.setCell {w wr : World} {g : Nat} (h : Kept w wr g (g + 1)) (k : Nat) (u : Value) : Kept w (wr.setCell ⟨g, k, none⟩ u) g (g + 1) :=
  ⟨h.os, h.tape, h.output, by simpa [World.setCell] using h.size, fun i hi' hne => (Below.heap_setCell wr _ _ i (by show i ≠ g; omega)).trans (h.block i hi' hne)⟩
theorem sorted_at {ks : List Nat} {i j : Nat} {S : List Int} (h : sorted ks i S) (hj : j < i) : ∃ x : Nat, S[j]? = some (x : Int) ∧ x < i := by
  have hl := sorted_len h
  obtain ⟨z, hz⟩ := get_some S j (by omega)
  have := h.2.subset (List.mem_of_getElem? hz)
  rw [iota_mem] at this
  exact ⟨z.toNat, by rw [hz]; congr 1; omega, by omega⟩
set_option maxHeartbeats 2000000 in
theorem sl_insertion (key : ByteArray) (g gb c : Nat) (w : World) (hk : kval (nb key) = true) (hB : Buf w gb 3 (icells (iota key.size))) (hg : Buf w g 9 [.string key]) (hne : g ≠ gb) :
    Calls Try.prog 57 #[.slice (some ⟨gb, 0, none⟩) key.size c, .int .i64 0, .int .i64 (key.size : Int), .func (.func 48) #[] #[.pointer (some ⟨g, 0, none⟩)]] w
      fun e w' => e = .returned (.tuple #[]) ∧ Buf w' gb 3 (icells (koL (nb key))) ∧ Kept w w' gb (gb + 1) := by
  obtain ⟨hk1, hk2, hw⟩ := kval_yes hk
  have Hw := Lib.hid hw
  have Hl := Lib.hid (nb_length key)
  rw [nb_length] at hk1 hk2
  have h0 : iota key.size = [0] ++ (iota key.size).drop 1 := by
    obtain ⟨hl, he⟩ := List.getElem?_eq_some_iff.1 (iota_at key.size 0 (by omega))
    have := List.drop_eq_getElem_cons hl
    rw [List.drop_zero, he] at this
    exact this
  have hB0 : Buf w gb 3 (icells ([0] ++ (iota key.size).drop 1)) := by rw [← h0]; exact hB
  have HB0 := Lib.hid hB0
  have Hgb := Lib.hid hg
  have Hne := Lib.hid hne
  clear h0 hB0 hB hg hne hw hk
  go_enter Try.func57, Try.ntmps57
  go_wp2_with fail
  go_loopw [8] (fun vi wr => ∃ (i : Nat) (S : List Int), 1 ≤ i ∧ i ≤ key.size ∧ vi = .int .i64 i ∧ Hid (sorted (nb key) i S) ∧ Hid (Buf wr gb 3 (icells (S ++ (iota key.size).drop i))) ∧ Kept w wr gb (gb + 1)) (fun vi _ => key.size - (intOf vi).toNat)
  case atStart => exact ⟨1, [0], Nat.le_refl _, hk1, by go_num, sorted_zero _, HB0.out, Kept.refl _ _ _⟩
  case round =>
    obtain ⟨i, S, hi1, hi2, rfl, HS, HB, HK⟩ := hrel
    clear HB0
    by_cases hlt : i < key.size
    · have hltz : (i : Int) < (key.size : Int) := by omega
      have hS := sorted_len HS.out
      have Hst := Lib.hid (show Buf wr gb 3 (icells (sink S (i : Int) ((iota key.size).drop (i + 1)) i)) from by rw [← sink_start hS hlt]; exact HB.out)
      have Hbe := Lib.hid (behind_end (ks := nb key) hS)
      have HSl := Lib.hid hS
      clear HB hS
      go_wp2_with fail
      go_loopw [9] (fun vj wt => ∃ j : Nat, j ≤ i ∧ vj = .int .i64 j ∧ Hid (behind (nb key) i S j) ∧ Hid (Buf wt gb 3 (icells (sink S (i : Int) ((iota key.size).drop (i + 1)) j))) ∧ Kept w wt gb (gb + 1)) (fun vj _ => (intOf vj).toNat)
      case atStart => exact ⟨i, Nat.le_refl _, rfl, Hbe.out, Hst.out, HK⟩
      case round =>
        obtain ⟨j, hj, rfl, HBj, Hsk, HKj⟩ := hrel
        clear Hst Hbe HK
        have OUT : Hid ((j = 0 ∨ ∃ x, S[j - 1]? = some x ∧ kv (nb key) x ≤ kv (nb key) (i : Int)) → ∃ S', sorted (nb key) (i + 1) S' ∧ sink S (i : Int) ((iota key.size).drop (i + 1)) j = S' ++ (iota key.size).drop (i + 1)) := by
          intro hs
          exact ⟨_, sorted_done HS.out HBj.out hj hs, by simp [sink]⟩
        rcases Nat.eq_zero_or_pos j with hj0 | hj0
        · subst hj0
          obtain ⟨S', hS', hE⟩ := OUT.out (.inl rfl)
          have HS' := Lib.hid hS'
          have HE := Lib.hid hE
          clear hS' hE
          go_wp2_with fail
          go_quiet (fail)
          go_wp2_with fail
          go_roundw
          case rel => exact ⟨i + 1, S', by omega, by omega, by go_num, HS'.out, (show Buf _ _ _ _ by rw [← HE.out]; exact Hsk.out.drewN _), HKj.drewN _⟩
          case measure => simp [intOf]; omega
        · obtain ⟨jp, rfl⟩ : ∃ jp, j = jp + 1 := ⟨j - 1, by omega⟩
          obtain ⟨x, hx, hxi⟩ := sorted_at HS.out (by omega : jp < i)
          have cj := Hsk.out.cell (icells_at (sink_at S (i : Int) ((iota key.size).drop (i + 1)) (jp + 1) (by rw [HSl.out]; omega)))
          have cp := Hsk.out.cell (icells_at (sink_left S (i : Int) ((iota key.size).drop (i + 1)) jp (by rw [HSl.out]; omega) hx))
          have hlen : (icells (sink S (i : Int) ((iota key.size).drop (i + 1)) (jp + 1))).length = key.size := by
            rw [icells_len, sink_len _ _ _ _ (by rw [HSl.out]; omega), HSl.out, List.length_drop, iota_len]; omega
          have fj := Hsk.out.free (j := jp + 1) (by omega)
          have fp := Hsk.out.free (j := jp) (by omega)
          have hgc : wr.cell? ⟨g, 0, none⟩ = some (.string key) := (Hgb.out.same (HKj.block g Hgb.out.lt (by have := Hne.out; omega))).cell (j := 0) rfl
          have hc := fun q => impl_KeyCmp key i x g (wr.drewN q) hgc (by omega) (by omega)
          have Hx := Lib.hid hx
          have jz : (jp : Int) + 1 < (key.size : Int) := by omega
          have jz1 : (jp : Int) < (key.size : Int) := by omega
          have p0 : (0 : Int) ≤ (jp : Int) + 1 := by omega
          have e0 : ((jp : Int) + 1).toNat = jp + 1 := by omega
          clear hx hlen hgc
          by_cases hlv : kv (nb key) (i : Int) < kv (nb key) (x : Int)
          · have hcf : cfI (kv (nb key) (i : Int) : Int) (kv (nb key) (x : Int) : Int) = -1 := by unfold cfI; rw [if_pos (by omega)]
            have Hlv := Lib.hid hlv
            simp only [hcf] at hc
            clear hcf hlv
            go_wp2_with fail
            go_quiet (first | (go_at_call 48; refine Calls.quiet_of (hc _)))
            go_wp2_with fail
            have cj2 : (wr.drewN nq).cell? ⟨gb, jp + 1, none⟩ = some (.int .i64 (i : Int)) := cj
            have cp2 : (wr.drewN nq).cell? ⟨gb, jp, none⟩ = some (.int .i64 (x : Int)) := cp
            have fj2 : (wr.drewN nq).frozen? ⟨gb, jp + 1, none⟩ = false := fj
            have fp2 : (wr.drewN nq).frozen? ⟨gb, jp, none⟩ = false := fp
            have Hsk2 := Lib.hid (Hsk.out.drewN nq)
            have HK2 := HKj.drewN nq
            clear cj cp fj fp hc Hsk HKj Hgb
            generalize wr.drewN nq = wq at cj2 cp2 fj2 fp2 Hsk2 HK2 ⊢
            obtain ⟨j1, hj1⟩ : ∃ j1, j1 = jp + 1 := ⟨_, rfl⟩
            rw [← hj1] at cj2 fj2 e0
            have J1 := Lib.hid hj1
            clear hj1
            go_big_region
            all_goals go_wp2
            go_roundw
            case rel =>
              refine ⟨jp, by omega, by first | rfl | go_num, behind_step HBj.out Hx.out Hlv.out, (show Buf _ _ _ _ from ?_), ?_⟩
              · have hb := (Hsk2.out.set (jp + 1) (.int .i64 (x : Int))).set jp (.int .i64 (i : Int))
                rw [icells_set, icells_set, sink_step S (i : Int) _ jp Hx.out, ← J1.out] at hb
                exact hb
              · exact ((HK2.setCell _ _).setCell _ _).drewN 1
            case measure => first | (simp [intOf]; done) | (simp [intOf]; omega)
          · have hcf : ∃ d : Int, 0 ≤ d ∧ cfI (kv (nb key) (i : Int) : Int) (kv (nb key) (x : Int) : Int) = d := ⟨_, by unfold cfI; rw [if_neg (by omega)]; split <;> omega, rfl⟩
            obtain ⟨d, hd, hcf⟩ := hcf
            obtain ⟨S', hS', hE⟩ := OUT.out (.inr ⟨(x : Int), Hx.out, by omega⟩)
            have HS' := Lib.hid hS'
            have HE := Lib.hid hE
            have hdd : decide (d < 0) = false := decide_eq_false (by omega)
            simp only [hcf] at hc
            clear hcf hlv hS' hE
            go_wp2_with fail
            go_quiet (first | (go_at_call 48; refine Calls.quiet_of (hc _)))
            go_wp2_with fail
            go_roundw
            case rel => exact ⟨i + 1, S', by omega, by omega, by go_num, HS'.out, (show Buf _ _ _ _ by rw [← HE.out]; exact Hsk.out.drewN _), HKj.drewN _⟩
            case measure => simp [intOf]; omega
    · have hin : i = key.size := by omega
      subst hin
      have hfin : S = koL (nb key) := koL_of Hw.out HS.out.1 (by rw [Hl.out]; exact HS.out.2)
      have HB' := Lib.hid (show Buf wr gb 3 (icells (koL (nb key))) from by have := HB.out; rwa [List.drop_eq_nil_of_le (by rw [iota_len]; exact Nat.le_refl _), List.append_nil, hfin] at this)
      clear HB hfin
      go_wp2_with fail
      go_end0
      exact ⟨rfl, HB'.out, HK⟩
set_option maxHeartbeats 800000 in
theorem sl_stable (key : ByteArray) (g gb c : Nat) (w : World) (hk : kval (nb key) = true) (hB : Buf w gb 3 (icells (iota key.size))) (hg : Buf w g 9 [.string key]) (hne : g ≠ gb) :
    Calls Try.prog 54 #[.slice (some ⟨gb, 0, none⟩) key.size c, .int .i64 (key.size : Int), .func (.func 48) #[] #[.pointer (some ⟨g, 0, none⟩)]] w
      fun e w' => e = .returned (.tuple #[]) ∧ Buf w' gb 3 (icells (koL (nb key))) ∧ Kept w w' gb (gb + 1) := by
  have hk2 := (kval_yes hk).2.1
  rw [nb_length] at hk2
  have h20 : ¬ (20 : Int) ≤ (key.size : Int) := by omega
  have h20' : ¬ (20 : Int) < (key.size : Int) := by omega
  have Hk := Lib.hid hk
  have HB := Lib.hid hB
  have Hg := Lib.hid hg
  have Hne := Lib.hid hne
  clear hk hB hg hne
  go_enter Try.func54, Try.ntmps54
  go_wp2_with fail
  refine wp_loop_rounds 1 ?_
  rw [rounds_succ]
  go_wp2_with fail
  refine (sl_insertion key g gb c w Hk.out HB.out Hg.out Hne.out).mono ?_
  rintro e v1 ⟨rfl, hb1, hk1⟩
  have Hb1 := Lib.hid hb1
  clear hb1
  go_wp2_with fail
  refine wp_loop_rounds 1 ?_
  rw [rounds_succ]
  go_wp2_with fail
  go_end0
  exact ⟨rfl, Hb1.out, hk1⟩
theorem sl_sort (key : ByteArray) (g gb c : Nat) (w : World) (hk : kval (nb key) = true) (hB : Buf w gb 3 (icells (iota key.size))) (hg : Buf w g 9 [.string key]) (hne : g ≠ gb) :
    Calls Try.prog 47 #[.slice (some ⟨gb, 0, none⟩) key.size c, .func (.func 48) #[] #[.pointer (some ⟨g, 0, none⟩)]] w
      fun e w' => e = .returned (.tuple #[]) ∧ Buf w' gb 3 (icells (koL (nb key))) ∧ Kept w w' gb (gb + 1) := by
  go_enter Try.func47, Try.ntmps47
  go_wp2_with fail
  refine (sl_stable key g gb c w hk hB hg hne).mono ?_
  rintro e v1 ⟨rfl, hb1, hk1⟩
  go_wp2_with fail
  go_end0
  exact ⟨rfl, hb1, hk1⟩
end Go.Proofs.Ytppdikegmijfgaa
