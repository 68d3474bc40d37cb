/- The repetitions of an order of places: the program returns what the plain function says. No condition. -/
import Derived.Test.YtofnknfoblkcfaaOrder
set_option linter.unusedVariables false
namespace Go.Proofs.Ytofnknfoblkcfaa
open Go.RowKit

def seenV (V : List Nat) : List Bool := (List.range 44).map fun j => decide (j ∈ V)
theorem seenV_len (V : List Nat) : (seenV V).length = 44 := by simp [seenV]
theorem seenV_nil : seenV [] = List.replicate 44 false := by decide
theorem seenV_at (V : List Nat) (j : Nat) (h : j < 44) : (seenV V)[j]? = some (decide (j ∈ V)) := by simp [seenV, h]
theorem seenV_set (V : List Nat) (x : Nat) : (seenV V).set x true = seenV (V ++ [x]) := by
  apply List.ext_getElem?
  intro j
  rw [List.getElem?_set, seenV_len]
  rcases Nat.lt_or_ge j 44 with hj | hj
  · rw [seenV_at _ j hj, seenV_at _ j hj]
    by_cases hx : x = j
    · subst hx
      rw [if_pos rfl, if_pos hj]
      simp
    · rw [if_neg hx]
      congr 1
      rw [decide_eq_decide, List.mem_append, List.mem_singleton]
      exact ⟨.inl, fun h => h.elim id fun e => absurd e.symm hx⟩
  · rw [List.getElem?_eq_none (l := seenV V) (by rw [seenV_len]; exact hj), List.getElem?_eq_none (l := seenV (V ++ [x])) (by rw [seenV_len]; exact hj)]
    split
    · rw [if_neg (by omega)]
    · rfl
/-- The places that are visited, and m more from k on. -/
def visM (zs : List Int) (k m : Nat) : List Nat := vis zs k ++ (List.range m).map fun j => itr zs j k
theorem visM_zero (zs : List Int) (k : Nat) : visM zs k 0 = vis zs k := by simp [visM]
theorem visM_succ (zs : List Int) (k m : Nat) : visM zs k (m + 1) = visM zs k m ++ [itr zs m k] := by simp [visM, List.range_succ]
theorem visM_done {zs : List Int} {k : Nat} (hv : k ∉ vis zs k) : visM zs k (cyc zs k) = vis zs (k + 1) := by rw [vis, if_neg hv]; rfl
theorem visM_new {zs : List Int} (h : plv zs = true) {k m : Nat} (hk : k < zs.length) (hv : k ∉ vis zs k) (hm : m < cyc zs k) : itr zs m k ∉ visM zs k m := by
  intro hx
  rcases List.mem_append.1 hx with hx | hx
  · exact vis_not h hk hv hx
  · simp only [List.mem_map, List.mem_range] at hx
    obtain ⟨j, hj, e⟩ := hx
    exact itr_ne h hk hj hm e
theorem visM_back {zs : List Int} (h : plv zs = true) {k : Nat} (hk : k < zs.length) : itr zs (cyc zs k) k ∈ visM zs k (cyc zs k) := by
  rw [(cyc_spec h hk).2.1]
  refine List.mem_append.2 (.inr ?_)
  simp only [List.mem_map, List.mem_range]
  exact ⟨0, cyc_pos k, rfl⟩
def zc44 : Array Value := Array.replicate 44 (.bool false)
theorem zv44 (w : World) : (zeroValue 36).run Try.prog w = .ok (.agg zc44) w := by kernel_rfl
theorem zeroes44 : zc44.toList = blcells (List.replicate 44 false) := by kernel_rfl
theorem zero44 (w : World) : Buf (w.alloc (.cells zc44 36)) w.heap.size 36 (blcells (List.replicate 44 false)) :=
  Buf.new w _ _ _ (fun j u hu => by rw [← Array.getElem?_toList, zeroes44]; exact hu) 0 0 (.inl (Nat.le_refl _))
set_option maxHeartbeats 2000000 in
theorem impl_PlacesOrder (A : Option Addr) (n c : Nat) (zs : List Int) (w : World) (h : Ints w A zs) (hn : zs.length = n) (hb : n ≤ 9223372036854775807) :
    Calls Try.prog 8 #[.slice A n c] w fun e w' => e = .returned (.int .i64 ((po zs : Nat) : Int)) ∧ Below w.heap.size w w' := by
  have Hn := Lib.hid hn
  by_cases h44 : 44 < n
  · rw [po_no (.inr (by rw [hn]; exact h44))]
    clear hn
    go_enter Try.func8, Try.ntmps8
    go_wp2_with fail
    go_ret
    exact ⟨rfl, Below.refl _ _⟩
  · cases hv : plv zs
    · rw [po_no (.inl hv)]
      clear hn
      go_enter Try.func8, Try.ntmps8
      go_wp2_with fail
      refine (impl_PlacesValid _ _ _ _ _ h Hn.out hb).mono ?_
      rintro e v1 ⟨rfl, hb1⟩
      go_wp2_with fail
      go_ret
      exact ⟨rfl, hb1⟩
    · rw [po_yes hv (by rw [hn]; omega), hn]
      have Hv := Lib.hid hv
      have Hle : Hid (∀ k, k ≤ n → lcmK zs k ≤ 17592186044416) := fun k hk => lcmK_le Hv.out (by rw [Hn.out]; exact hk) (by rw [Hn.out]; omega)
      clear hn
      go_enter Try.func8, Try.ntmps8
      go_wp2_with fail
      refine (impl_PlacesValid _ _ _ _ _ h Hn.out hb).mono ?_
      rintro e v1 ⟨rfl, hb1⟩
      have hbuf := zero44 v1
      have hzv := zv44
      have hgs := hb1.size
      go_wp2_with fail
      clear hv hzv
      go_loopw [3, 18] (fun vo i wr => ∃ k : Nat, k ≤ n ∧ i = .int .i64 k ∧ vo = .int .i64 (lcmK zs k : Int) ∧ Hid (Buf wr v1.heap.size 36 (blcells (seenV (vis zs k)))) ∧ Below v1.heap.size v1 wr) (fun _ i _ => n - (intOf i).toNat)
      case atStart => exact ⟨0, Nat.zero_le _, rfl, by first | rfl | go_num, (show Buf _ _ _ _ by rw [vis, seenV_nil]; exact hbuf), (Below.refl _ _).alloc (Nat.le_refl _) _⟩
      case round =>
        obtain ⟨k, hk, rfl, rfl, Hbk, hbe⟩ := hrel
        clear hbuf
        have hB := hb1.trans (hbe.mono hgs)
        have hle := Hle.out k hk
        have hpos := lcmK_pos (zs := zs) k
        by_cases hlt : k < n
        · have hk44 : k < 44 := by omega
          have hkz : k < zs.length := by rw [Hn.out]; exact hlt
          by_cases hin : k ∈ vis zs k
          · have Hnx := Lib.hid (lcmK_seen Hv.out hkz hin)
            have Hvs : Hid (vis zs (k + 1) = vis zs k) := by show _ = _; rw [vis, if_pos hin]
            have hcell := Hbk.out.cell (blcells_at (seenV_at (vis zs k) k hk44))
            rw [decide_eq_true hin] at hcell
            have H := Lib.hid h
            clear h hin hkz
            generalize lcmK zs k = y at *
            go_wp2_with fail
            refine wp_loop_rounds 1 ?_
            rw [rounds_succ]
            go_wp2_with fail
            go_roundw
            case rel => exact ⟨k + 1, by omega, by go_num, by rw [Hnx.out], (show Buf _ _ _ _ by rw [Hvs.out]; exact Hbk.out), hbe⟩
            case measure => simp [intOf]; omega
          · have Hin := Lib.hid hin
            have Hsp := Lib.hid (cyc_spec Hv.out hkz)
            have hc1 := cyc_pos (zs := zs) k
            have hcl : cyc zs k ≤ 44 := by have := Hsp.out.1; rw [Hn.out] at this; omega
            have hle2 := Hle.out (k + 1) hlt
            have Hnx : Hid (lcmK zs (k + 1) = Nat.lcm (lcmK zs k) (cyc zs k)) := rfl
            have Hle2 : Hid (Nat.lcm (lcmK zs k) (cyc zs k) ≤ 17592186044416) := hle2
            have H := Lib.hid h
            have Hkz := Lib.hid hkz
            clear h hin hkz hle2
            generalize hY : lcmK zs k = y at *
            have HY := Lib.hid hY
            clear hY
            go_wp2_with fail
            go_loopw [6, 7] (fun vl va wt => ∃ m : Nat, m ≤ cyc zs k ∧ vl = .int .i64 m ∧ va = .int .i64 (itr zs m k : Int) ∧ Hid (Buf wt v1.heap.size 36 (blcells (seenV (visM zs k m)))) ∧ Below v1.heap.size v1 wt) (fun vl _ _ => cyc zs k - (intOf vl).toNat)
            case atStart => exact ⟨0, Nat.zero_le _, rfl, rfl, (show Buf _ _ _ _ by rw [visM_zero]; exact Hbk.out), hbe⟩
            case round =>
              obtain ⟨m, hm, rfl, rfl, Hbm, hbt⟩ := hrel
              clear Hbk hbe hB
              have hil : itr zs m k < n := by have := itr_lt Hv.out Hkz.out m; rw [Hn.out] at this; exact this
              have hi44 : itr zs m k < 44 := by omega
              have hcell := Hbm.out.cell (blcells_at (seenV_at (visM zs k m) (itr zs m k) hi44))
              by_cases hlm : m < cyc zs k
              · rw [decide_eq_false (visM_new Hv.out Hkz.out Hin.out hlm)] at hcell
                have hfree := Hbm.out.free (j := itr zs m k) (by rw [blcells_len, seenV_len]; exact hi44)
                have Hset : Hid (∀ wt : World, Buf wt v1.heap.size 36 (blcells (seenV (visM zs k m))) → Buf (wt.setCell ⟨v1.heap.size, itr zs m k, none⟩ (.bool true)) v1.heap.size 36 (blcells (seenV (visM zs k (m + 1))))) := by
                  intro wt hb
                  rw [visM_succ, ← seenV_set, ← blcells_set]
                  exact hb.set _ _
                have h1 := (nx_at Hv.out (by rw [Hn.out]; exact hil : itr zs m k < zs.length)).1
                obtain ⟨bb, off, rfl, hbl, hc⟩ := (H.out.next (hb1.trans (hbt.mono hgs))).at_ h1
                have hbne : bb ≠ v1.heap.size := by
                  obtain ⟨b', off', he, hbl', _⟩ := H.out.at_ h1
                  injection he with he
                  injection he with e1 e2
                  omega
                have hc' : (wr.setCell ⟨v1.heap.size, itr zs m k, none⟩ (.bool true)).cell? ⟨bb, off + itr zs m k, none⟩ = some (.int .i64 ((nx zs (itr zs m k) : Nat) : Int)) := by
                  rw [World.cell?_setCell_other wr _ _ _ (fun e => hbne (by injection e with e1 e2; first | exact e1 | exact e1.symm))]
                  exact hc
                have Hnxt : Hid (nx zs (itr zs m k) = itr zs (m + 1) k) := rfl
                clear h1
                generalize itr zs m k = x at *
                go_wp2_with fail
                go_roundw
                case rel => exact ⟨m + 1, by omega, by go_num, by rw [← Hnxt.out], Hset.out _ Hbm.out, hbt.setCell (Nat.le_refl _) _⟩
                case measure => simp [intOf]; omega
              · have hmc : m = cyc zs k := by omega
                have hin2 : itr zs m k ∈ visM zs k m := by rw [hmc]; exact visM_back Hv.out Hkz.out
                rw [decide_eq_true hin2] at hcell
                have Hfin : Hid (visM zs k m = vis zs (k + 1)) := by show _ = _; rw [hmc]; exact visM_done Hin.out
                have Hmc := Lib.hid hmc
                have hm1 : 1 ≤ m := by omega
                have hm0 : (0 : Int) < (m : Int) := by omega
                have hm44 : m ≤ 44 := by omega
                clear hin2 hmc
                generalize itr zs m k = x at *
                go_wp2_with fail
                refine (impl_leastMultiple y m _ hpos hm1 (by omega) (by omega) (by rw [Hmc.out]; exact Nat.le_trans Hle2.out (by omega))).mono ?_
                rintro e v3 ⟨rfl, hb3⟩
                have Hb3 := Lib.hid (Hbm.out.next hb3)
                have hbe3 := hbt.trans (hb3.mono hbt.size)
                have HnxM : Hid (lcmK zs (k + 1) = Nat.lcm y m) := by show _ = _; rw [Hmc.out]; exact Hnx.out
                generalize Nat.lcm y m = q at *
                go_wp2_with fail
                go_roundw
                case rel => exact ⟨k + 1, by omega, by go_num, by rw [HnxM.out], (show Buf _ _ _ _ by rw [← Hfin.out]; exact Hb3.out), hbe3⟩
                case measure => simp [intOf]; omega
        · have hkn : k = n := by omega
          have Hkn := Lib.hid hkn
          clear hkn
          go_wp2_with fail
          go_ret
          exact ⟨ret_int (by rw [Hkn.out]), hB⟩
end Go.Proofs.Ytofnknfoblkcfaa
