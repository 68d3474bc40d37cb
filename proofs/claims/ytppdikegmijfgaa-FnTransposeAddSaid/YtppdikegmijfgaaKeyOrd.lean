/- The order of a key: both programs return what the plain function says. No condition. -/
import Derived.Test.YtppdikegmijfgaaSort
import Derived.Test.YtppdikegmijfgaaPeriod
import Derived.Test.YtppdikegmijfgaaWords
set_option linter.unusedVariables false
namespace Go.Proofs.Ytppdikegmijfgaa
open Go.RowKit

theorem kval_size (key : ByteArray) : kval (nb key) = (decide (1 ≤ (key.size : Int) ∧ (key.size : Int) ≤ 12) && wv (nb key)) := by rw [kval, nb_length]
theorem impl_keyValid (key : ByteArray) (w : World) (hs : key.size ≤ maxLen) : Calls Try.prog 17 #[.string key] w fun e w' => e = .returned (.bool (kval (nb key))) ∧ w = w' := by
  rw [kval_size]
  cases hp : decide (1 ≤ (key.size : Int) ∧ (key.size : Int) ≤ 12)
  · go_enter Try.func17, Try.ntmps17
    go_wp2_with fail
    refine (impl_periodValid _ _).mono ?_
    rintro e v1 ⟨rfl, rfl⟩
    go_wp2_with fail
    go_ret
    exact ⟨rfl, rfl⟩
  · go_enter Try.func17, Try.ntmps17
    go_wp2_with fail
    refine (impl_periodValid _ _).mono ?_
    rintro e v1 ⟨rfl, rfl⟩
    go_wp2_with fail
    refine (impl_WordValid _ _ hs).mono ?_
    rintro e v2 ⟨rfl, rfl⟩
    go_wp2_with fail
    go_ret
    exact ⟨rfl, rfl⟩
theorem spec_l17Key (key : ByteArray) (w : World) (hs : key.size ≤ maxLen) : Calls Try.prog 21 #[.string key] w fun e w' => e = .returned (.bool (kval (nb key))) ∧ w = w' := by
  rw [kval_size]
  cases hp : wv (nb key)
  · go_enter Try.func21, Try.ntmps21
    go_wp2_with fail
    refine (spec_WordValid _ _ hs).mono ?_
    rintro e v1 ⟨rfl, rfl⟩
    go_wp2_with fail
    go_ret
    exact ⟨ret_bool (by simp), rfl⟩
  · go_enter Try.func21, Try.ntmps21
    go_wp2_with fail
    refine (spec_WordValid _ _ hs).mono ?_
    rintro e v1 ⟨rfl, rfl⟩
    go_wp2_with fail
    refine (spec_l14Period _ _).mono ?_
    rintro e v2 ⟨rfl, rfl⟩
    go_wp2_with fail
    go_ret
    exact ⟨ret_bool (by simp), rfl⟩
theorem emptyRowK (w : World) (B : Nat) (hB : B ≤ w.heap.size) : (w.alloc (.cells #[] 3)).ownsRow B 3 1 (.slice (some ⟨w.heap.size, 0, none⟩) 0 0) 0 (icells []) :=
  World.ownsRow_lit w #[] 0 hB (Nat.zero_le _) rfl
set_option maxHeartbeats 1000000 in
theorem impl_KeyOrder (key : ByteArray) (w : World) (hs : key.size ≤ maxLen) : Calls Try.prog 38 #[.string key] w (RetI w (ko (nb key))) := by
  have hbw : Below w.heap.size w (w.alloc (.cells #[.string key] 9)) := (Below.refl _ _).alloc (Nat.le_refl _) _
  have hbox : Buf (w.alloc (.cells #[.string key] 9)) w.heap.size 9 [.string key] := Buf.new w _ _ _ (fun j u hu => by rw [← Array.getElem?_toList]; exact hu) 0 0 (.inl (Nat.le_refl _))
  have hgc : (w.alloc (.cells #[.string key] 9)).cell? ⟨w.heap.size, 0, none⟩ = some (.string key) := hbox.cell (j := 0) rfl
  have hszw : (w.alloc (.cells #[.string key] 9)).heap.size = w.heap.size + 1 := by simp
  generalize hv0 : w.alloc (.cells #[.string key] 9) = v0 at hbw hbox hgc hszw
  have Hszw := Lib.hid hszw
  clear hszw
  cases hk : kval (nb key)
  · have hr : ko (nb key) = [] := by rw [ko, hk]; rfl
    rw [hr]
    clear hr
    go_enter Try.func38, Try.ntmps38
    go_wp2_with fail
    refine (impl_keyValid _ _ hs).mono ?_
    rw [hk]
    rintro e v1 ⟨rfl, rfl⟩
    go_wp2_with fail
    go_ret
    exact ⟨_, 0, 0, rfl, rfl, .inl rfl, hbw⟩
  · have hr : ko (nb key) = koL (nb key) := by rw [ko, hk]; rfl
    rw [hr]
    clear hr
    obtain ⟨k1, k2, hw⟩ := kval_yes hk
    have Hkl := Lib.hid ((koL_len hw).trans (nb_length key))
    rw [nb_length] at k1 k2
    obtain ⟨w1, hmk, hbuf, hbel, hsz⟩ := make_ints key.size (by omega) v0
    have HL : Hid ((iota key.size).length = (List.replicate key.size (0 : Int)).length) := by show _ = _; rw [iota_len]; simp
    have Hk := Lib.hid hk
    have hmf : ∀ (fn : Fn) (first cap : Array Value) (w : World), (Instr.makeFunc fn first cap).run Try.prog w = .ok (.func fn first cap) w := fun _ _ _ _ => rfl
    have Hbox := Lib.hid hbox
    clear hbox
    go_enter Try.func38, Try.ntmps38
    go_wp2_with fail
    refine (impl_keyValid _ _ hs).mono ?_
    rw [hk]
    rintro e v1 ⟨rfl, rfl⟩
    go_wp2_with fail
    go_loopw [13] (fun i wr => ∃ k : Nat, k ≤ key.size ∧ i = .int .i64 k ∧ Buf wr v0.heap.size 3 (icells (mix (iota key.size) (List.replicate key.size 0) k)) ∧ Below v0.heap.size v0 wr) (fun i _ => key.size - (intOf i).toNat)
    case atStart => exact ⟨0, Nat.zero_le _, rfl, by rw [mix_zero]; exact hbuf, hbel⟩
    case round =>
      obtain ⟨k, hkk, rfl, hbk, hbe⟩ := hrel
      clear hmk hbuf hbel hsz hgc hv0
      by_cases hlt : k < key.size
      · have hfree := hbk.free (j := k) (by rw [icells_len, mix_len _ _ _ HL.out]; simp; exact hlt)
        obtain ⟨u, hcell⟩ : ∃ u, wr.cell? ⟨v0.heap.size, k, none⟩ = some u := by
          obtain ⟨u, hu⟩ := get_some (icells (mix (iota key.size) (List.replicate key.size 0) k)) k (by rw [icells_len, mix_len _ _ _ HL.out]; simp; exact hlt)
          exact ⟨u, hbk.cell hu⟩
        have Hj := Lib.hid (iota_at key.size k hlt)
        go_wp2
        go_roundw
        case rel => exact ⟨k + 1, by omega, by go_num, hbk.iput HL.out Hj.out, hbe.setCell (Nat.le_refl _) _⟩
        case measure => simp [intOf]; omega
      · have hkn : k = key.size := by omega
        rw [hkn, mix_end HL.out (iota_len _)] at hbk
        have Hbk := Lib.hid hbk
        clear hbk
        go_wp2_with fail
        refine (sl_sort key w.heap.size v0.heap.size _ _ Hk.out Hbk.out (Hbox.out.next hbe) (by have := Hszw.out; omega)).mono ?_
        rintro e v3 ⟨rfl, hb3, hk3⟩
        have Hb3 := Lib.hid hb3
        clear hb3
        go_wp2_with fail
        go_ret
        exact ⟨_, _, _, rfl, Hkl.out, .inr ⟨_, rfl, (by have := Hszw.out; omega), Hb3.out⟩, (hbw.trans (hbe.mono (by have := Hszw.out; omega))).trans (hk3.below (by have := Hszw.out; omega) (by have := hbe.size; have := Hszw.out; omega))⟩
set_option maxHeartbeats 2000000 in
theorem spec_KeyOrder (key : ByteArray) (w : World) (hs : key.size ≤ maxLen) : Calls Try.prog 42 #[.string key] w (RetI w (ko (nb key))) := by
  have hbw : Below w.heap.size w (w.alloc (.cells #[] 3)) := (Below.refl _ _).alloc (Nat.le_refl _) _
  have hrow := emptyRowK w w.heap.size (Nat.le_refl _)
  cases hk : kval (nb key)
  · have hr : ko (nb key) = [] := by rw [ko, hk]; rfl
    rw [hr]
    clear hr
    go_enter Try.func42, Try.ntmps42
    go_wp2_with fail
    refine wp_loop_rounds 1 ?_
    rw [rounds_succ]
    go_wp2_with fail
    refine (spec_l17Key _ _ hs).mono ?_
    rw [hk]
    rintro e v1 ⟨rfl, rfl⟩
    go_wp2_with fail
    go_ret
    exact ⟨_, 0, 0, rfl, rfl, .inl rfl, hbw⟩
  · have hr : ko (nb key) = (kxs (nb key) 10).flatten := by rw [ko, hk]; rfl
    rw [hr]
    clear hr
    obtain ⟨k1, k2, hw⟩ := kval_yes hk
    have Hw := Lib.hid hw
    rw [nb_length] at k1 k2
    clear hw
    go_enter Try.func42, Try.ntmps42
    go_wp2_with fail
    go_loopw [3, 4] (fun o i wr => ∃ k : Nat, k ≤ 10 ∧ i = .int .i64 k ∧ wr.ownsRow w.heap.size 3 1 o ((kxs (nb key) k).flatten).length (icells (kxs (nb key) k).flatten) ∧ Below w.heap.size w wr) (fun _ i _ => 10 - (intOf i).toNat)
    case atStart => exact ⟨0, Nat.zero_le _, rfl, hrow, hbw⟩
    case round =>
      obtain ⟨k, hkk, rfl, hrk, hbe⟩ := hrel
      clear hrow hbw
      by_cases hlt : k < 10
      · have hfl := kxs_len (nb key) k
        rw [nb_length] at hfl
        have Hrk := Lib.hid hrk
        clear hrk
        go_wp2_with fail
        refine (spec_l17Key _ _ hs).mono ?_
        rw [hk]
        rintro e v1 ⟨rfl, rfl⟩
        go_wp2_with fail
        go_loopw [3, 5] (fun o i wt => ∃ j : Nat, j ≤ key.size ∧ i = .int .i64 j ∧ wt.ownsRow w.heap.size 3 1 o (((kxs (nb key) k).flatten) ++ kx (nb key) k j).length (icells ((kxs (nb key) k).flatten ++ kx (nb key) k j)) ∧ Below w.heap.size w wt) (fun _ i _ => key.size - (intOf i).toNat)
        case atStart => exact ⟨0, Nat.zero_le _, rfl, by rw [kx_zero, List.append_nil]; exact Hrk.out, hbe⟩
        case round =>
          obtain ⟨j, hj, rfl, hrj, hbj⟩ := hrel
          clear Hrk hbe
          by_cases hlj : j < key.size
          · have hlen : ((kxs (nb key) k).flatten ++ kx (nb key) k j).length ≤ 1000 := by rw [List.length_append]; have := kx_len (nb key) k j; omega
            have Hrj := Lib.hid hrj
            clear hrj
            obtain ⟨c, hc⟩ : ∃ c, (nb key)[j]? = some c := ⟨_, nb_get? key j hlj⟩
            have hcr := wv_mem Hw.out (List.mem_of_getElem? hc)
            by_cases hrl : c = 97 + k
            · have Hs := Lib.hid (kx_yes hc hrl)
              have hbq : (((c : Int) - 97) == (k : Int)) = true := by rw [beq_iff_eq]; omega
              have Hc := Lib.hid hc
              clear hc hrl
              go_wp2_with fail
              refine (spec_l1Digit key _ j c _ rfl Hc.out).mono ?_
              rintro e v3 ⟨rfl, rfl⟩
              go_wp2_with (at_builtin; go_must (refine wpList_append_int wr rfl _ _ rfl w.heap.size _ _ _ (j : Int) Hrj.out rfl rfl (by omega) hbj.size ?_); intro v' w1 hown' hbel'; have Ho := Lib.hid hown'; clear hown')
              go_roundw
              case rel => exact ⟨j + 1, by omega, by go_num, by rw [Hs.out, ← List.append_assoc, List.length_append (bs := [(j : Int)])]; exact Ho.out, hbj.trans hbel'⟩
              case measure => simp [intOf]; omega
            · have Hs := Lib.hid (kx_no hc hrl)
              have hbq : (((c : Int) - 97) == (k : Int)) = false := by rw [beq_eq_false_iff_ne]; omega
              have Hc := Lib.hid hc
              clear hc hrl
              go_wp2_with fail
              refine (spec_l1Digit key _ j c _ rfl Hc.out).mono ?_
              rintro e v3 ⟨rfl, rfl⟩
              go_wp2_with fail
              go_roundw
              case rel => exact ⟨j + 1, by omega, by go_num, by rw [Hs.out]; exact Hrj.out, hbj⟩
              case measure => simp [intOf]; omega
          · have hjn : j = key.size := by omega
            subst hjn
            have hrj' := hrj
            rw [← nb_length key, ← kxs_succ] at hrj'
            have Hrj := Lib.hid hrj'
            clear hrj hrj'
            go_wp2_with fail
            go_roundw
            case rel => exact ⟨k + 1, by omega, by go_num, Hrj.out, hbj⟩
            case measure => simp [intOf]; omega
      · have hkn : k = 10 := by omega
        subst hkn
        have Hrk := Lib.hid hrk
        clear hrk
        go_wp2_with fail
        go_ret
        exact RetI.of_row Hrk.out hbe
end Go.Proofs.Ytppdikegmijfgaa
