/- The columns of a word: the program returns what the plain function says. No condition. -/
import Derived.Test.YtljnakjphbnbjaaTrans
import Derived.Test.YtljnakjphbnbjaaStrs
import Derived.Laws.BytesArg
set_option linter.unusedVariables false
namespace Go.Proofs.Ytljnakjphbnbjaa
open Go.RowKit

/-- The letters of a column. -/
def cS (l : List Nat) (m c i : Nat) : List Nat := readL l (colK m c i)
def cSs (l : List Nat) (m k : Nat) : List (List Nat) := (List.range k).map fun c => cS l m c l.length
theorem cSs_len (l : List Nat) (m k : Nat) : (cSs l m k).length = k := by simp [cSs]
theorem cSs_succ (l : List Nat) (m k : Nat) : cSs l m (k + 1) = cSs l m k ++ [cS l m k l.length] := by simp [cSs, List.range_succ]
theorem cSs_at (l : List Nat) (m k j : Nat) (h : j < k) : (cSs l m k)[j]? = some (cS l m j l.length) := by simp [cSs, h]
theorem cS_next {l : List Nat} {m c i x : Nat} (hm : 0 < m) (hi : i % m = c) (hx : l[i]? = some x) : cS l m c (i + m) = cS l m c i ++ [x] := by
  unfold cS
  rw [colK_next hm hi, readL, List.map_append]
  simp [readL, List.getD_eq_getElem?_getD, hx]
theorem cS_start {l : List Nat} {m c : Nat} (hc : c < m) : cS l m c c = [] := by rw [cS, colK_start hc]; rfl
theorem cS_done {l : List Nat} {m c i n : Nat} (hm : 0 < m) (hi : i % m = c) (h1 : n ≤ i) (h2 : i < n + m) : cS l m c i = cS l m c n := by rw [cS, colK_done hm hi h1 h2]; rfl
theorem cS_lt {l : List Nat} (h : ∀ x ∈ l, x < 256) (m c i : Nat) : ∀ x ∈ cS l m c i, x < 256 := readL_lt _ h
theorem cS_len (l : List Nat) (m c i : Nat) : (cS l m c i).length ≤ i := by rw [cS, readL_len]; exact colK_len m c i
theorem info_u8C : (Try.prog.info? 5).map (fun i => (i.zero, i.size, i.bytes)) = some (some (.int .u8 0), 1, 1) := by kernel_rfl
theorem wpList_append_u8C {ops : Array Oper} {rest : List Oper} {o : Oper} {a : Act} {Q : Exit → Act → World → Prop} (w : World) (hgd : o.guard = none) (s x : Operand)
    (ho : o.op = .call { callee := .builtin .append, args := #[s, x], argTypes := #[22, 22] }) (B : Nat) (v : Value) (n : Nat) (zs : List Nat) (z : Nat)
    (hown : w.ownsRow B 5 1 v n (bcells zs)) (hs : a.eval s = v) (hx : a.eval x = .slice (some ⟨w.heap.size, 0, none⟩) 1 1) (hn : n ≤ 1000000) (hB : B ≤ w.heap.size)
    (h : ∀ v' w', w'.ownsRow B 5 1 v' (n + 1) (bcells (zs ++ [z])) → Below B w w' → wpList Try.prog ops Q rest (a.put o.dst v') w') :
    wpList Try.prog ops Q (o :: rest) a (w.alloc (.cells #[.int .u8 (z : Int)] 5)) := by
  obtain ⟨i0, hi, hz0, hz1, hz2⟩ := info_parts info_u8C
  refine wpList_append_own _ hgd s x 22 ho B 5 i0 (.int .u8 0) 1 1 Try.underlying22 hi hz0 hz1 hz2 rfl (by decide) v n (bcells zs) hs (hown.alloc _) ⟨w.heap.size, 0, none⟩ 1 1 [.int .u8 (z : Int)] hx rfl ?_ ?_ ?_ ?_ ?_ ?_
  · intro j u hj
    match j, hj with
    | 0, hj =>
      simp at hj
      subst hj
      rw [show (⟨w.heap.size, 0, none⟩ : Addr).add 0 = ⟨w.heap.size, 0, none⟩ from rfl, World.cell?_alloc_mark]
      rfl
  · intro u hu
    simp at hu
    subst hu
    rfl
  · unfold maxLen; omega
  · omega
  · simp; omega
  · intro v' w' hown' hg _
    refine h v' w' (by simpa [bcells] using hown') ?_
    refine Below.grown ((Below.refl _ _).alloc hB _) hg (by simp; omega) (fun k hk => ?_)
    exact (hown.lt k hk).1
theorem wpList_append_strC {ops : Array Oper} {rest : List Oper} {o : Oper} {a : Act} {Q : Exit → Act → World → Prop} (w : World) (hgd : o.guard = none) (s x : Operand)
    (ho : o.op = .call { callee := .builtin .append, args := #[s, x], argTypes := #[33, 33] }) (B : Nat) (v : Value) (n : Nat) (zs : List ByteArray) (z : ByteArray)
    (hown : w.ownsRow B 9 1 v n (scells zs)) (hs : a.eval s = v) (hx : a.eval x = .slice (some ⟨w.heap.size, 0, none⟩) 1 1) (hn : n ≤ 1000000) (hB : B ≤ w.heap.size)
    (h : ∀ v' w', w'.ownsRow B 9 1 v' (n + 1) (scells (zs ++ [z])) → Below B w w' → wpList Try.prog ops Q rest (a.put o.dst v') w') :
    wpList Try.prog ops Q (o :: rest) a (w.alloc (.cells #[.string z] 9)) := by
  obtain ⟨i0, hi, hz0, hz1, hz2⟩ := info_parts info_str
  refine wpList_append_own _ hgd s x 33 ho B 9 i0 (.string ByteArray.empty) 1 16 Try.underlying33 hi hz0 hz1 hz2 rfl (by decide) v n (scells zs) hs (hown.alloc _) ⟨w.heap.size, 0, none⟩ 1 1 [.string z] hx rfl ?_ ?_ ?_ ?_ ?_ ?_
  · intro j u hj
    match j, hj with
    | 0, hj =>
      simp at hj
      subst hj
      rw [show (⟨w.heap.size, 0, none⟩ : Addr).add 0 = ⟨w.heap.size, 0, none⟩ from rfl, World.cell?_alloc_mark]
      rfl
  · intro u hu
    simp at hu
    subst hu
    rfl
  · unfold maxLen; omega
  · omega
  · simp; omega
  · intro v' w' hown' hg _
    refine h v' w' (by simpa [scells] using hown') ?_
    refine Below.grown ((Below.refl _ _).alloc hB _) hg (by simp; omega) (fun k hk => ?_)
    exact (hown.lt k hk).1
theorem make_roomS (n : Nat) (hn : n ≤ 4194304) (w : World) : ∃ w1, (Instr.makeSlice 33 (.int .i64 0) (.int .i64 (n : Int))).run Try.prog w = .ok (.slice (some ⟨w.heap.size, 0, none⟩) 0 n) w1 ∧
    w1.ownsRow w.heap.size 9 1 (.slice (some ⟨w.heap.size, 0, none⟩) 0 n) 0 [] ∧ Below w.heap.size w w1 ∧ w.heap.size < w1.heap.size := by
  obtain ⟨i0, hi, hz0, hz1, hz2⟩ := info_parts info_str
  have hr := run_make (P := Try.prog) w 33 9 i0 _ Try.underlying33 hi hz0 .i64 .i64 0 n (by omega) (by omega) (by rw [hz2]; omega) (by omega)
  rw [hz1] at hr
  simp only [Int.toNat_natCast, Nat.mul_one] at hr
  refine ⟨_, hr, World.ownsRow_made w _ n (Nat.le_refl _) (by unfold maxLen; omega) (by simp [madeCells]), (Below.refl _ _).alloc (Nat.le_refl _) _, by simp⟩
/-- A row of bytes of the call's own as a string. -/
theorem of_row (w : World) (B n : Nat) (v : Value) (l : List Nat) (h : w.ownsRow B 5 1 v n (bcells l)) (hl : ∀ x ∈ l, x < 256) :
    ∃ r, nb r = l ∧ (convert 22 9 v).run Try.prog w = .ok (.string r) w := by
  obtain ⟨hln, h⟩ := h
  rw [bcells_len, Nat.mul_one] at hln
  rcases h with ⟨rfl, rfl⟩ | ⟨g, cap, cur, rfl, hB, hh, hnc, hcm, hcs, ht⟩
  · have hl0 : l = [] := List.eq_nil_of_length_eq_zero hln
    subst hl0
    exact ⟨ByteArray.empty, rfl, run_convert_bytes_nil w 22 5 Try.underlying22 Try.underlying5 0 0 9 Try.underlying9⟩
  · refine of_bytes w g n cap l ⟨cur, 0, 0, hh, .inl (Nat.le_refl _), fun j u hu => ?_⟩ hln hl
    rw [← ht, List.getElem?_take] at hu
    split at hu
    · rw [← Array.getElem?_toList]; exact hu
    · cases hu
theorem srow_kept {w w' : World} {B n : Nat} {v : Value} {xs : List Value} {t : TypeId} (h : w.ownsRow B t 1 v n xs) (hb : Below w.heap.size w w') : w'.ownsRow B t 1 v n xs := by
  obtain ⟨hl, h⟩ := h
  refine ⟨hl, ?_⟩
  rcases h with h | ⟨g, cap, cur, hv, hB, hh, r⟩
  · exact .inl h
  · have hlt : g < w.heap.size := by
      rcases Nat.lt_or_ge g w.heap.size with h1 | h1
      · exact h1
      · rw [Array.getElem?_eq_none h1] at hh; cases hh
    exact .inr ⟨g, cap, cur, hv, hB, (hb.block g hlt).trans hh, r⟩
theorem srow_strs {w : World} {B n : Nat} {v : Value} {zs : List ByteArray} (h : w.ownsRow B 9 1 v n (scells zs)) : ∃ A c, v = .slice A n c ∧ zs.length = n ∧ Strs w A zs := by
  obtain ⟨hl, h⟩ := h
  rw [scells_len, Nat.mul_one] at hl
  rcases h with ⟨rfl, rfl⟩ | ⟨g, cap, cur, rfl, hB, hh, hnc, hcm, hcs, ht⟩
  · exact ⟨none, 0, rfl, hl, .inl (List.eq_nil_of_length_eq_zero hl)⟩
  · refine ⟨_, cap, rfl, hl, Strs.of_buf (t := 9) ⟨cur, 0, 0, hh, .inl (Nat.le_refl _), fun j u hu => ?_⟩⟩
    rw [← ht, List.getElem?_take] at hu
    split at hu
    · rw [← Array.getElem?_toList]; exact hu
    · cases hu
set_option maxHeartbeats 2000000 in
theorem impl_ColumnsOf (a : ByteArray) (P : Nat) (w : World) (hv : wv (nb a) = true) (hp1 : 1 ≤ P) (hp2 : P ≤ 12) :
    Calls Try.prog 17 #[.string a, .int .i64 (P : Int)] w fun e w' => ∃ A c zs, e = .returned (.slice A P c) ∧ zs.length = P ∧ zs.map nb = cSs (nb a) P P ∧ Strs w' A zs ∧ Below w.heap.size w w' := by
  have la := wv_len hv
  rw [nb_length] at la
  have ham : a.size ≤ maxLen := by unfold maxLen; omega
  have hpd : decide (1 ≤ (P : Int) ∧ (P : Int) ≤ 12) = true := by rw [decide_eq_true_eq]; omega
  obtain ⟨w1, hmk, hrow, hbel, hsz⟩ := make_roomS P (by omega) w
  have Hnl := Lib.hid (nb_length a)
  go_enter Try.func17, Try.ntmps17
  go_wp2_with fail
  refine (impl_WordValid _ _ ham).mono ?_
  rintro e v1 ⟨rfl, rfl⟩
  go_wp2_with fail
  refine (impl_periodValid _ _).mono ?_
  rintro e v2 ⟨rfl, rfl⟩
  go_wp2_with fail
  go_loopw [5, 20] (fun o i wr => ∃ (k : Nat) (zs : List ByteArray), k ≤ P ∧ i = .int .i64 k ∧ Hid (zs.map nb = cSs (nb a) P k) ∧ Hid (wr.ownsRow w.heap.size 9 1 o k (scells zs)) ∧ Below w.heap.size w wr) (fun _ i _ => P - (intOf i).toNat)
  case atStart => exact ⟨0, [], Nat.zero_le _, rfl, rfl, hrow, hbel⟩
  case round =>
    obtain ⟨k, zs, hk, rfl, Hzs, Hrk, hbe⟩ := hrel
    clear hmk hrow hbel hsz
    by_cases hlt : k < P
    · obtain ⟨wo, hwo⟩ : ∃ wo, wo = wr := ⟨wr, rfl⟩
      subst hwo
      have hnil := World.ownsRow_nil wo wo.heap.size 5 1
      go_wp2_with fail
      go_loopw [7, 8] (fun o i wt => ∃ j : Nat, j < a.size + P ∧ k ≤ j ∧ i = .int .i64 j ∧ Hid (j % P = k) ∧ Hid (wt.ownsRow wo.heap.size 5 1 o (cS (nb a) P k j).length (bcells (cS (nb a) P k j))) ∧ Below wo.heap.size wo wt) (fun _ i _ => a.size + P - (intOf i).toNat)
      case atStart => exact ⟨k, by omega, Nat.le_refl _, rfl, mod_of_lt hlt, (show World.ownsRow _ _ _ _ _ _ _ by rw [cS_start hlt]; exact hnil), Below.refl _ _⟩
      case round =>
        obtain ⟨j, hj, hkj, rfl, Hm, Hrj, hbj⟩ := hrel
        clear hnil
        by_cases hlj : j < a.size
        · obtain ⟨x, hx⟩ : ∃ x, (nb a)[j]? = some x := ⟨_, nb_get? a j hlj⟩
          have hxk : a[j].toNat = x := by have := nb_get? a j hlj; rw [hx] at this; injection this with this; exact this.symm
          have Hs := Lib.hid (cS_next hp1 Hm.out hx)
          have hlen : (cS (nb a) P k j).length ≤ 1000 := by have := cS_len (nb a) P k j; omega
          clear hx
          go_wp2_with (at_builtin; go_must (refine wpList_append_u8C wr rfl _ _ rfl wo.heap.size _ _ _ x Hrj.out rfl rfl (by omega) hbj.size ?_); intro v' w1' hown' hbel'; have Ho := Lib.hid hown'; clear hown')
          go_roundw
          case rel => exact ⟨j + P, by omega, by omega, by go_num, (show (j + P) % P = k by rw [Nat.add_mod_right]; exact Hm.out), (show World.ownsRow _ _ _ _ _ _ _ by rw [Hs.out, List.length_append (bs := [x])]; exact Ho.out), hbj.trans hbel'⟩
          case measure => simp [intOf]; omega
        · obtain ⟨r, hr, hrun⟩ := of_row wr _ _ _ _ Hrj.out (cS_lt (fun x hx => nb_lt x hx) _ _ _)
          have Hr := Lib.hid hr
          have Hd := Lib.hid (cS_done (l := nb a) (m := P) (c := k) (i := j) (n := a.size) hp1 Hm.out (by omega) hj)
          have Hrk2 := Lib.hid (srow_kept Hrk.out hbj)
          have hbw := bthen hbe hbj
          clear hr
          go_wp2_with (at_builtin; go_must (refine wpList_append_strC wr rfl _ _ rfl w.heap.size _ _ _ r Hrk2.out rfl rfl (by omega) hbw.size ?_); intro v' w1' hown' hbel'; have Ho := Lib.hid hown'; clear hown')
          go_roundw
          case rel => exact ⟨k + 1, zs ++ [r], by omega, by go_num, (show List.map nb (zs ++ [r]) = _ by rw [List.map_append, Hzs.out, cSs_succ]; simp [Hr.out, Hd.out, Hnl.out]), Ho.out, hbw.trans hbel'⟩
          case measure => simp [intOf]; omega
    · have hkn : k = P := by omega
      subst hkn
      obtain ⟨A, c, rfl, hl, hS⟩ := srow_strs Hrk.out
      have Hl := Lib.hid hl
      have HS := Lib.hid hS
      clear hl hS
      go_wp2_with fail
      go_ret
      exact ⟨A, c, zs, rfl, Hl.out, Hzs.out, HS.out, hbe⟩
end Go.Proofs.Ytljnakjphbnbjaa
