/- The places along a fence: the program returns what the plain function says. No condition. -/
import Derived.Test.YtofnknfoblkcfaaRail2
import Derived.Deep.AppendLies
set_option linter.unusedVariables false
namespace Go.Proofs.Ytofnknfoblkcfaa
open Go.RowKit

theorem info_ints : (Try.prog.info? 22).map (fun i => (i.zero, i.size, i.bytes)) = some (some (.slice none 0 0), 1, 24) := by kernel_rfl
theorem make_rows (n : Nat) (hn : n ≤ 4194304) (w : World) : ∃ w1, (Instr.makeSlice 46 (.int .i64 (n : Int)) (.int .i64 (n : Int))).run Try.prog w = .ok (.slice (some ⟨w.heap.size, 0, none⟩) n n) w1 ∧
    Buf w1 w.heap.size 22 (List.replicate n (.slice none 0 0)) ∧ Below w.heap.size w w1 ∧ w.heap.size < w1.heap.size := by
  obtain ⟨i0, hi, hz0, hz1, hz2⟩ := info_parts info_ints
  have hr := run_make (P := Try.prog) w 46 22 i0 _ Try.underlying46 hi hz0 .i64 .i64 n n (by omega) (by omega) (by rw [hz2]; omega) (by omega)
  rw [hz1] at hr
  simp only [Int.toNat_natCast, Nat.mul_one] at hr
  refine ⟨_, hr, Buf.new w _ _ _ (fun j u hu => ?_) 0 0 (.inl (Nat.le_refl _)), (Below.refl _ _).alloc (Nat.le_refl _) _, by simp⟩
  exact madeOne_at _ _ _ _ hu
theorem rows_zero (R : Nat) : rows R 0 R = List.replicate R [] := by
  apply List.ext_getElem?
  intro j
  rcases Nat.lt_or_ge j R with h | h
  · rw [rows_at R 0 R j h, railK_zero, List.getElem?_replicate, if_pos h]
  · rw [List.getElem?_eq_none (by rw [rows_len]; exact h), List.getElem?_eq_none (by simp; exact h)]
theorem rows_step (R a r : Nat) (h : rl R a = r) (hr : r < R) : (rows R a R).set r (railK R r a ++ [(a : Int)]) = rows R (a + 1) R := by
  apply List.ext_getElem?
  intro j
  rw [List.getElem?_set, rows_len]
  rcases Nat.lt_or_ge j R with hj | hj
  · rw [rows_at R (a + 1) R j hj]
    by_cases hrj : r = j
    · subst hrj
      rw [if_pos rfl, if_pos hr, railK_yes h]
    · rw [if_neg hrj, rows_at R a R j hj, railK_no (by omega)]
  · rw [if_neg (by omega), List.getElem?_eq_none (by rw [rows_len]; exact hj), List.getElem?_eq_none (by rw [rows_len]; exact hj)]
theorem LRow.start {w : World} {g R : Nat} (h : Buf w g 22 (List.replicate R (.slice none 0 0))) : LRow w (g + 1) g (List.replicate R (.slice none 0 0)) (rows R 0 R) ∧ Dist (List.replicate R (.slice none 0 0)) := by
  rw [rows_zero]
  refine ⟨⟨h, by simp, fun j v zs hv hz => ?_⟩, fun i j vi vj b _ hi hj hb => ?_⟩
  · rw [List.getElem?_replicate] at hv hz
    split at hv
    · rename_i hj
      rw [if_pos hj] at hz
      injection hv with hv
      injection hz with hz
      subst hv
      subst hz
      exact World.ownsRow_nil _ _ _ _
    · cases hv
  · rw [List.getElem?_replicate] at hi
    split at hi
    · injection hi with hi
      subst hi
      cases hb
    · cases hi
set_option maxHeartbeats 4000000 in
theorem impl_RailPlaces (r n : Int) (w : World) : Calls Try.prog 13 #[.int .i64 r, .int .i64 n] w (RetI w (rpl r n)) := by
  cases hv : rpv r n
  · have hr : rpl r n = [] := by rw [rpl, hv]; rfl
    rw [hr]
    clear hr
    cases hp : decide (1 ≤ r ∧ r ≤ 12)
    · go_enter Try.func13, Try.ntmps13
      go_wp2_with fail
      refine (impl_periodValid _ _).mono ?_
      rintro e v1 ⟨rfl, rfl⟩
      go_wp2_with fail
      go_ret
      exact ⟨_, 0, 0, rfl, rfl, .inl rfl, Below.refl _ _⟩
    · have hq : decide (0 ≤ n ∧ n ≤ 200) = false := by rw [rpv, hp, Bool.true_and] at hv; exact hv
      have hq' : n < 0 ∨ (0 ≤ n ∧ 200 < n) := by rw [decide_eq_false_iff_not] at hq; omega
      clear hq hv
      rcases hq' with h1 | ⟨h0, h1⟩
      · go_enter Try.func13, Try.ntmps13
        go_wp2_with fail
        refine (impl_periodValid _ _).mono ?_
        rintro e v1 ⟨rfl, rfl⟩
        go_wp2_with fail
        go_ret
        exact ⟨_, 0, 0, rfl, rfl, .inl rfl, Below.refl _ _⟩
      · have h0' : ¬ n < 0 := by omega
        go_enter Try.func13, Try.ntmps13
        go_wp2_with fail
        refine (impl_periodValid _ _).mono ?_
        rintro e v1 ⟨rfl, rfl⟩
        go_wp2_with fail
        go_ret
        exact ⟨_, 0, 0, rfl, rfl, .inl rfl, Below.refl _ _⟩
  · obtain ⟨R, N, rfl, rfl, hR1, hR2, hN⟩ := rpv_yes hv
    have hr : rpl (R : Int) (N : Int) = (rows R N R).flatten := by rw [rpl, hv]; rfl
    rw [hr]
    clear hr
    have hp : decide (1 ≤ (R : Int) ∧ (R : Int) ≤ 12) = true := by rw [decide_eq_true_eq]; omega
    have hN0 : ¬ (N : Int) < 0 := by omega
    have hN2 : ¬ (200 : Int) < (N : Int) := by omega
    obtain ⟨w1, hmk, hbuf, hbel, hsz⟩ := make_rows R (by omega) w
    have HS := Lib.hid (LRow.start hbuf)
    clear hbuf hv
    go_enter Try.func13, Try.ntmps13
    go_wp2_with fail
    refine (impl_periodValid _ _).mono ?_
    rintro e v1 ⟨rfl, rfl⟩
    go_wp2_with fail
    clear hp hN0 hN2
    go_loopw [6, 7, 23] (fun vr vd i wr => ∃ (a q : Nat) (d : Bool) (vs : List Value), a ≤ N ∧ q < R ∧ i = .int .i64 a ∧ vr = .int .i64 q ∧ vd = .bool d ∧ Hid (fence R a q d) ∧ Hid (LRow wr (w.heap.size + 1) w.heap.size vs (rows R a R) ∧ Dist vs) ∧ Hid (w.heap.size < wr.heap.size) ∧ Below w.heap.size w wr) (fun _ _ i _ => N - (intOf i).toNat)
    case atStart => exact ⟨0, 0, true, _, Nat.zero_le _, hR1, rfl, rfl, rfl, fence_zero R hR1, HS.out, hsz, hbel⟩
    case round =>
      obtain ⟨a, q, d, vs, ha, hqR, rfl, rfl, rfl, Hf, HL, Hsz, hbe⟩ := hrel
      clear hmk HS hbel hsz
      by_cases hlt : a < N
      · have hq := fence_rl Hf.out
        obtain ⟨v, hv⟩ := get_some vs q (by rw [HL.out.1.len, rows_len]; exact hqR)
        have hz := rows_at R a R q hqR
        have Ho := Lib.hid (HL.out.1.own q v _ hv hz)
        have hcell := HL.out.1.buf.cell hv
        have Hne : Hid (v.ownBlock ≠ some w.heap.size) := by intro e; have := (Ho.out.lt _ e).1; omega
        have hlen : (railK R q a).length ≤ 1000 := by have := railK_len R q a; omega
        have Hst := Lib.hid (rows_step R a q hq.symm hqR)
        have Hv := Lib.hid hv
        have Hz := Lib.hid hz
        have hqv : q < vs.length := (List.getElem?_eq_some_iff.1 hv).1
        have Hqv := Lib.hid hqv
        clear hv hz hq hqv
        have STEP : Hid (∀ (v' : Value) (w1' : World), w1'.ownsRow (w.heap.size + 1) 3 1 v' ((railK R q a).length + 1) (icells (railK R q a ++ [(a : Int)])) → (wr.alloc (.cells #[.int .i64 (a : Int)] 3)).grownBy w1' v.ownBlock → (v'.ownBlock = v.ownBlock ∨ v'.ownBlock = some (wr.heap.size + 1)) →
            (LRow (w1'.setCell ⟨w.heap.size, q, none⟩ v') (w.heap.size + 1) w.heap.size (vs.set q v') (rows R (a + 1) R) ∧ Dist (vs.set q v')) ∧ w.heap.size < (w1'.setCell ⟨w.heap.size, q, none⟩ v').heap.size ∧ Below w.heap.size w (w1'.setCell ⟨w.heap.size, q, none⟩ v')) := by
          intro v' w1' h1 h2 h3
          have hb1 : Below w.heap.size wr w1' := Below.grown ((Below.refl _ _).alloc (Nat.le_of_lt Hsz.out) _) h2 (by simp; have := Hsz.out; omega) (fun k hk => by have := (Ho.out.lt k hk).1; omega)
          refine ⟨by rw [← Hst.out]; exact HL.out.1.put HL.out.2 Hv.out Hz.out h1 h2 h3, ?_, ?_⟩
          · have := hb1.size; have := Hsz.out; simp [World.setCell]; omega
          · exact (hbe.trans hb1).setCell (Nat.le_refl _) _
        have KEEP : Hid (∀ (v' : Value) (w1' : World), (wr.alloc (.cells #[.int .i64 (a : Int)] 3)).grownBy w1' v.ownBlock → (v'.ownBlock = v.ownBlock ∨ v'.ownBlock = some (wr.heap.size + 1)) → w1'.cell? ⟨w.heap.size, q, none⟩ = some v ∧ w1'.frozen? ⟨w.heap.size, q, none⟩ = false) := by
          intro v' w1' h2 h3
          have hk := (app_keeps HL.out.1.buf Hne.out h2 h3).1
          exact ⟨hk.cell Hv.out, hk.free Hqv.out⟩
        clear Hst Hv Hz Hqv Hne
        by_cases hR : R = 1
        · have Hnx : Hid (fence R (a + 1) q d) := by have := Hf.out; subst hR; exact fence_one this
          have hRb : ((R : Int) == 1) = true := by rw [beq_iff_eq]; omega
          clear hR
          go_wp2_with (at_builtin; go_must (refine wpList_append_int3 wr rfl _ _ rfl (w.heap.size + 1) _ _ _ (a : Int) Ho.out rfl rfl (by omega) Hsz.out ?_); intro v' w1' hown' hgr' hat'; obtain ⟨g', cp', rfl, hBg', hlg'⟩ := hown'.form (Nat.succ_pos _); have Hs := Lib.hid (STEP.out _ w1' hown' hgr' hat'); obtain ⟨hc1, hf1⟩ := KEEP.out _ w1' hgr' hat'; clear hown' hgr' hat')
          go_roundw
          case rel => exact ⟨a + 1, q, d, _, by omega, hqR, by go_num, rfl, rfl, Hnx.out, Hs.out.1, Hs.out.2.1, Hs.out.2.2⟩
          case measure => simp [intOf]; omega
        · have hRb : ((R : Int) == 1) = false := by rw [beq_eq_false_iff_ne]; omega
          have hR2' : 2 ≤ R := by omega
          cases d
          · by_cases hq0 : q = 0
            · subst hq0
              have Hnx := Lib.hid (fence_back Hf.out hR2')
              go_wp2_with (at_builtin; go_must (refine wpList_append_int3 wr rfl _ _ rfl (w.heap.size + 1) _ _ _ (a : Int) Ho.out rfl rfl (by omega) Hsz.out ?_); intro v' w1' hown' hgr' hat'; obtain ⟨g', cp', rfl, hBg', hlg'⟩ := hown'.form (Nat.succ_pos _); have Hs := Lib.hid (STEP.out _ w1' hown' hgr' hat'); obtain ⟨hc1, hf1⟩ := KEEP.out _ w1' hgr' hat'; clear hown' hgr' hat')
              go_roundw
              case rel => exact ⟨a + 1, 1, true, _, by omega, by omega, by go_num, rfl, rfl, Hnx.out, Hs.out.1, Hs.out.2.1, Hs.out.2.2⟩
              case measure => simp [intOf]; omega
            · have Hnx := Lib.hid (fence_up Hf.out hR2' hq0)
              have hqb : ((q : Int) == 0) = false := by rw [beq_eq_false_iff_ne]; omega
              go_wp2_with (at_builtin; go_must (refine wpList_append_int3 wr rfl _ _ rfl (w.heap.size + 1) _ _ _ (a : Int) Ho.out rfl rfl (by omega) Hsz.out ?_); intro v' w1' hown' hgr' hat'; obtain ⟨g', cp', rfl, hBg', hlg'⟩ := hown'.form (Nat.succ_pos _); have Hs := Lib.hid (STEP.out _ w1' hown' hgr' hat'); obtain ⟨hc1, hf1⟩ := KEEP.out _ w1' hgr' hat'; clear hown' hgr' hat')
              go_roundw
              case rel => exact ⟨a + 1, q - 1, false, _, by omega, by omega, by go_num, by go_num, rfl, Hnx.out, Hs.out.1, Hs.out.2.1, Hs.out.2.2⟩
              case measure => simp [intOf]; omega
          · by_cases hqt : q + 1 = R
            · have Hnx := Lib.hid (fence_turn Hf.out hR2' hqt)
              have hqb : ((q : Int) == (R : Int) - 1) = true := by rw [beq_iff_eq]; omega
              go_wp2_with (at_builtin; go_must (refine wpList_append_int3 wr rfl _ _ rfl (w.heap.size + 1) _ _ _ (a : Int) Ho.out rfl rfl (by omega) Hsz.out ?_); intro v' w1' hown' hgr' hat'; obtain ⟨g', cp', rfl, hBg', hlg'⟩ := hown'.form (Nat.succ_pos _); have Hs := Lib.hid (STEP.out _ w1' hown' hgr' hat'); obtain ⟨hc1, hf1⟩ := KEEP.out _ w1' hgr' hat'; clear hown' hgr' hat')
              go_roundw
              case rel => exact ⟨a + 1, q - 1, false, _, by omega, by omega, by go_num, by go_num, rfl, Hnx.out, Hs.out.1, Hs.out.2.1, Hs.out.2.2⟩
              case measure => simp [intOf]; omega
            · have Hnx := Lib.hid (fence_down Hf.out hR2' hqt)
              have hqb : ((q : Int) == (R : Int) - 1) = false := by rw [beq_eq_false_iff_ne]; omega
              go_wp2_with (at_builtin; go_must (refine wpList_append_int3 wr rfl _ _ rfl (w.heap.size + 1) _ _ _ (a : Int) Ho.out rfl rfl (by omega) Hsz.out ?_); intro v' w1' hown' hgr' hat'; obtain ⟨g', cp', rfl, hBg', hlg'⟩ := hown'.form (Nat.succ_pos _); have Hs := Lib.hid (STEP.out _ w1' hown' hgr' hat'); obtain ⟨hc1, hf1⟩ := KEEP.out _ w1' hgr' hat'; clear hown' hgr' hat')
              go_roundw
              case rel => exact ⟨a + 1, q + 1, true, _, by omega, by omega, by go_num, by go_num, rfl, Hnx.out, Hs.out.1, Hs.out.2.1, Hs.out.2.2⟩
              case measure => simp [intOf]; omega
      · have han : a = N := by omega
        subst han
        have hfl := flat_len (n := a) hR1 (Nat.le_refl R)
        go_wp2_with fail
        refine (sl_Concat (w.heap.size + 1) w.heap.size R R vs (rows R a R) wr HL.out.1 (rows_len _ _ _) (by omega) (by omega)).mono ?_
        rintro e v3 ⟨A3, n3, c3, rfl, hl3, ho3, hb3⟩
        have Hl3 := Lib.hid hl3
        have Ho3 := Lib.hid ho3
        clear hl3 ho3
        go_wp2_with fail
        go_ret
        exact ⟨A3, n3, c3, rfl, Hl3.out, Ho3.out.less hbe.size, bthen hbe hb3⟩
end Go.Proofs.Ytofnknfoblkcfaa
