/- The places along a fence: the program returns what the plain function says. No condition. -/
import Derived.Test.YtofnknfoblkcfaaRail
import Derived.Test.YtofnknfoblkcfaaApp
import Derived.Lib.AppendZeros
set_option linter.unusedVariables false
namespace Go.Proofs.Ytofnknfoblkcfaa
open Go.RowKit

/-- A row whose block has stayed as it was. -/
theorem own_same {w w' : World} {B n : Nat} {v : Value} {xs : List Value} {t : TypeId} (h : w.ownsRow B t 1 v n xs) (hb : ∀ b, v.ownBlock = some b → b < w.heap.size → B ≤ b → w'.heap[b]? = w.heap[b]?) : w'.ownsRow B t 1 v n xs := by
  obtain ⟨hl, h⟩ := h
  refine ⟨hl, ?_⟩
  rcases h with h | ⟨g, cap, cur, hv, hB, hh, r⟩
  · exact .inl h
  · have hlt : g < w.heap.size := by
      rcases Nat.lt_or_ge g w.heap.size with h1 | h1
      · exact h1
      · rw [Array.getElem?_eq_none h1] at hh; cases hh
    exact .inr ⟨g, cap, cur, hv, hB, (hb g (by rw [hv]; rfl) hlt hB).trans hh, r⟩
/-- A row of rows of integers. -/
structure LRow (w : World) (B g : Nat) (vs : List Value) (zss : List (List Int)) : Prop where
  buf : Buf w g 22 vs
  len : vs.length = zss.length
  own : ∀ (j : Nat) (v : Value) (zs : List Int), vs[j]? = some v → zss[j]? = some zs → w.ownsRow B 3 1 v zs.length (icells zs)
/-- No two of them in one block. -/
def Dist (vs : List Value) : Prop := ∀ (i j : Nat) (vi vj : Value) (b : Nat), i ≠ j → vs[i]? = some vi → vs[j]? = some vj → vi.ownBlock = some b → vj.ownBlock ≠ some b
theorem LRow.next {w w' : World} {B g : Nat} {vs : List Value} {zss : List (List Int)} (h : LRow w B g vs zss) (hb : Below w.heap.size w w') : LRow w' B g vs zss :=
  ⟨h.buf.next hb, h.len, fun j v zs h1 h2 => own_same (h.own j v zs h1 h2) fun b _ hlt _ => hb.block b hlt⟩
theorem LRow.put {w w1 : World} {g r : Nat} {vs : List Value} {zss : List (List Int)} {v v' : Value} {zs : List Int} {z : Int} (h : LRow w (g + 1) g vs zss) (hd : Dist vs) (hv : vs[r]? = some v) (hz : zss[r]? = some zs)
    (hown : w1.ownsRow (g + 1) 3 1 v' (zs.length + 1) (icells (zs ++ [z]))) (hgr : (w.alloc (.cells #[.int .i64 z] 3)).grownBy w1 v.ownBlock) (hat : v'.ownBlock = v.ownBlock ∨ v'.ownBlock = some (w.heap.size + 1)) :
    LRow (w1.setCell ⟨g, r, none⟩ v') (g + 1) g (vs.set r v') (zss.set r (zs ++ [z])) ∧ Dist (vs.set r v') := by
  have hvo := h.own r v zs hv hz
  have hvg : v.ownBlock ≠ some g := by intro e; have := (hvo.lt g e).1; omega
  have hlt : r < vs.length := (List.getElem?_eq_some_iff.1 hv).1
  have hkp := app_keeps h.buf hvg hgr hat
  refine ⟨⟨hkp.1.set r v', by simp [h.len], fun j u ys hj hy => ?_⟩, fun i j vi vj b hij hi hj hb => ?_⟩
  · rw [List.getElem?_set] at hj hy
    by_cases hrj : r = j
    · subst hrj
      rw [if_pos rfl, if_pos hlt] at hj
      rw [if_pos rfl, if_pos (by rw [← h.len]; exact hlt)] at hy
      injection hj with hj
      injection hy with hy
      subst hj
      subst hy
      rw [List.length_append]
      exact own_same hown fun b _ _ hB => Below.heap_setCell w1 _ _ b (by show b ≠ g; omega)
    · rw [if_neg hrj] at hj hy
      have ho := h.own j u ys hj hy
      refine own_same ho fun b hb hbw hB => ?_
      refine (Below.heap_setCell w1 _ _ b (by show b ≠ g; omega)).trans ((hgr.block b (by simp; omega) (fun e => ?_)).trans (Below.heap_alloc w _ b hbw))
      exact hd r j v u b hrj hv hj e.symm hb
  · rw [List.getElem?_set] at hi hj
    by_cases hri : r = i
    · subst hri
      rw [if_pos rfl, if_pos hlt] at hi
      rw [if_neg hij] at hj
      injection hi with hi
      subst hi
      rcases hat with hat | hat
      · rw [hat] at hb
        exact hd r j v vj b hij hv hj hb
      · rw [hat] at hb
        injection hb with hb
        intro e
        have hzj : ∃ ys, zss[j]? = some ys := ⟨_, List.getElem?_eq_getElem (by rw [← h.len]; exact (List.getElem?_eq_some_iff.1 hj).1)⟩
        obtain ⟨ys, hys⟩ := hzj
        have := ((h.own j vj ys hj hys).lt b e).2
        omega
    · rw [if_neg hri] at hi
      by_cases hrj : r = j
      · subst hrj
        rw [if_pos rfl, if_pos hlt] at hj
        injection hj with hj
        subst hj
        rcases hat with hat | hat
        · rw [hat]; exact hd i r vi v b hij hi hv hb
        · rw [hat]
          intro e
          injection e with e
          have hzi : ∃ ys, zss[i]? = some ys := ⟨_, List.getElem?_eq_getElem (by rw [← h.len]; exact (List.getElem?_eq_some_iff.1 hi).1)⟩
          obtain ⟨ys, hys⟩ := hzi
          have := ((h.own i vi ys hi hys).lt b hb).2
          omega
      · rw [if_neg hrj] at hj
        exact hd i j vi vj b hij hi hj hb
/-- Integers are appended to a row of the call's own. -/
theorem wpList_append_ints {ops : Array Oper} {rest : List Oper} {o : Oper} {a : Act} {Q : Exit → Act → World → Prop} (w : World) (hgd : o.guard = none) (s x : Operand)
    (ho : o.op = .call { callee := .builtin .append, args := #[s, x], argTypes := #[22, 22] }) (B : Nat) (v : Value) (n : Nat) (zs : List Int) (B' : Nat) (u : Value) (ys : List Int)
    (hown : w.ownsRow B 3 1 v n (icells zs)) (hs : a.eval s = v) (hx : a.eval x = u) (hsrc : w.ownsRow B' 3 1 u ys.length (icells ys)) (hn : n ≤ 1000000) (hm : ys.length ≤ 1000000) (hB : B ≤ w.heap.size)
    (h : ∀ v' w', w'.ownsRow B 3 1 v' (n + ys.length) (icells (zs ++ ys)) → Below B w w' → wpList Try.prog ops Q rest (a.put o.dst v') w') :
    wpList Try.prog ops Q (o :: rest) a w := by
  obtain ⟨i0, hi, hz0, hz1, hz2⟩ := info_parts info_int
  rcases hsrc.2 with ⟨hu, h0⟩ | ⟨g, cap, cur, hu, _⟩
  · have hy0 : ys = [] := List.eq_nil_of_length_eq_zero h0
    subst hy0
    refine Lib.wpList_append_run w hgd s x _ _ ho v u hs hx v w ?_ (h v w (by simpa using hown) (Below.refl _ _))
    rw [hu]
    exact run_append_owned_none w B 22 _ 3 i0 1 Try.underlying22 hi v n (icells zs) hown
  · refine wpList_append_own _ hgd s x 22 ho B 3 i0 (.int .i64 0) 1 8 Try.underlying22 hi hz0 hz1 hz2 rfl (by decide) v n (icells zs) hs hown ⟨g, 0, none⟩ ys.length cap (icells ys) (by rw [hx, hu]) (by rw [icells_len, Nat.mul_one]) ?_ ?_ ?_ ?_ ?_ ?_
    · intro j q hj
      rw [hu] at hsrc
      have hjl : j < ys.length := by have := (List.getElem?_eq_some_iff.1 hj).1; rwa [icells_len] at this
      rw [show (⟨g, 0, none⟩ : Addr).add j = ⟨g, j, none⟩ from by unfold Addr.add; split <;> simp_all]
      rw [hsrc.cellAt j (by omega)]
      exact hj
    · intro q hq
      simp only [icells, List.mem_map] at hq
      obtain ⟨y, _, rfl⟩ := hq
      rfl
    · unfold maxLen; omega
    · omega
    · omega
    · intro v' w' hown' hg _
      refine h v' w' (by simpa [icells] using hown') ?_
      exact Below.grown (Below.refl _ _) hg hB (fun k hk => (hown.lt k hk).1)
set_option maxHeartbeats 800000 in
theorem sl_Grow (n : Nat) (w : World) (hn : n ≤ 100000) :
    Calls Try.prog 33 #[.slice none 0 0, .int .i64 (n : Int)] w fun e w' => ∃ v, e = .returned v ∧ w'.ownsRow w.heap.size 3 1 v 0 (icells []) ∧ Below w.heap.size w w' := by
  by_cases h0 : n = 0
  · subst h0
    go_enter Try.func33, Try.ntmps33
    go_wp2_with fail
    go_ret
    exact ⟨_, rfl, World.ownsRow_nil _ _ _ _, Below.refl _ _⟩
  · obtain ⟨i0, hi, hz0, hz1, hz2⟩ := info_parts info_int
    have hrun := Lib.run_append_nil_zeros (P := Try.prog) w 22 3 22 3 i0 (.int .i64 0) .i64 .i64 Try.underlying22 Try.underlying3 hi hz0 n (by omega) (by rw [hz1]; omega) (by omega) (by rw [hz2]; omega)
    have hc1 := grownCap_ge w n 0 3
    have hc2 := grownCap_le_maxLen w n 0 3 (by unfold maxLen; omega)
    have hrow : ∃ w1, (w.drew.alloc (.cells (Builtin.zeroCells (Value.int .i64 0).cells n ++ Builtin.zeroCells (Value.int .i64 0).cells (grownCap w n 0 3 - n)) 3)) = w1 ∧ w1.ownsRow w.heap.size 3 1 (.slice (some ⟨w.heap.size, 0, none⟩) 0 (grownCap w n 0 3)) 0 (icells []) ∧ Below w.heap.size w w1 := by
      refine ⟨_, rfl, ⟨rfl, .inr ⟨w.heap.size, grownCap w n 0 3, _, rfl, Nat.le_refl _, heap_alloc_new w.drew _, Nat.zero_le _, hc2, ?_, by simp [icells]⟩⟩, ((Below.refl _ _).drew).alloc (Nat.le_refl _) _⟩
      rw [Array.size_append, size_zeroCells, size_zeroCells]
      show n * 1 + (_ - n) * 1 = _ * 1
      omega
    obtain ⟨w1, hw1, hrow, hbel⟩ := hrow
    rw [hw1] at hrun
    have Hrow := Lib.hid hrow
    have Hc1 := Lib.hid hc1
    have Hc2 := Lib.hid hc2
    clear hrow hw1 hc1 hc2
    generalize grownCap w n 0 3 = cap at *
    have hn0 : (0 : Int) < (n : Int) := by omega
    go_enter Try.func33, Try.ntmps33
    go_wp2_with (at_builtin; refine Lib.wpList_append_run w rfl _ _ _ _ rfl _ _ rfl rfl _ _ hrun ?_)
    go_ret
    exact ⟨_, rfl, Hrow.out, hbel⟩
set_option maxHeartbeats 1000000 in
theorem sl_Concat (B g c R : Nat) (vs : List Value) (zss : List (List Int)) (w : World) (h : LRow w B g vs zss) (hR : zss.length = R) (hR2 : R ≤ 100) (hsum : zss.flatten.length ≤ 1000) :
    Calls Try.prog 28 #[.slice (some ⟨g, 0, none⟩) R c] w (RetI w zss.flatten) := by
  have Hsh : Hid (∀ k, ((zss.take k).flatten).length ≤ 1000) := by
    intro k
    have h1 := hsum
    rw [← List.take_append_drop k zss, List.flatten_append, List.length_append] at h1
    omega
  have Hst : Hid (∀ k zs, zss[k]? = some zs → ((zss.take (k + 1)).flatten) = (zss.take k).flatten ++ zs) := by
    intro k zs hz
    rw [List.take_add_one, hz]
    simp
  have HR := Lib.hid hR
  have H := Lib.hid h
  have Hall : Hid ((zss.take R).flatten = zss.flatten) := by show _ = _; rw [← hR, List.take_length]
  clear h hR hsum
  go_enter Try.func28, Try.ntmps28
  go_wp2_with fail
  go_loopw [3, 11] (fun s i wr => ∃ k : Nat, k ≤ R ∧ i = .int .i64 k ∧ s = .int .i64 (((zss.take k).flatten).length : Int) ∧ Below w.heap.size w wr) (fun _ i _ => R - (intOf i).toNat)
  case atStart => exact ⟨0, Nat.zero_le _, rfl, rfl, Below.refl _ _⟩
  case round =>
    obtain ⟨k, hk, rfl, rfl, hbe⟩ := hrel
    by_cases hlt : k < R
    · obtain ⟨v, hv⟩ := get_some vs k (by rw [H.out.len, HR.out]; exact hlt)
      obtain ⟨zs, hz⟩ := get_some zss k (by rw [HR.out]; exact hlt)
      have Hn := H.out.next hbe
      have hcell := Hn.buf.cell hv
      obtain ⟨A, c', rfl⟩ : ∃ A c', v = .slice A zs.length c' := by
        obtain ⟨A, c', e, _⟩ := own_of_row (Hn.own k v zs hv hz)
        exact ⟨A, c', e⟩
      have Hs := Lib.hid (congrArg List.length (Hst.out k zs hz))
      have hs1 := Hsh.out k
      have hs2 := Hsh.out (k + 1)
      rw [Hs.out, List.length_append] at hs2
      have Hs' : Hid (((zss.take (k + 1)).flatten).length = ((zss.take k).flatten).length + zs.length) := by show _ = _; rw [Hs.out, List.length_append]
      clear hv hz Hn Hs
      generalize ((zss.take k).flatten).length = q at *
      generalize zs.length = m at *
      go_wp2_with fail
      go_roundw
      case rel => exact ⟨k + 1, by omega, by go_num, by rw [Hs'.out]; go_num, hbe⟩
      case measure => simp [intOf]; omega
    · have hkn : k = R := by omega
      subst hkn
      have hs1 := Hsh.out k
      generalize hq : ((zss.take k).flatten).length = q at *
      have Hq := Lib.hid hq
      clear hq
      go_wp2_with fail
      refine (sl_Grow q wr (by omega)).mono ?_
      rintro e v1 ⟨v, rfl, hrow, hb1⟩
      have Hrow := Lib.hid hrow
      clear hrow
      obtain ⟨wo, hwo⟩ : ∃ wo, wo = wr := ⟨wr, rfl⟩
      subst hwo
      go_wp2_with fail
      go_loopw [6, 27] (fun o i wt => ∃ j : Nat, j ≤ k ∧ i = .int .i64 j ∧ Hid (wt.ownsRow wo.heap.size 3 1 o ((zss.take j).flatten).length (icells (zss.take j).flatten)) ∧ Below wo.heap.size wo wt) (fun _ i _ => k - (intOf i).toNat)
      case atStart => exact ⟨0, Nat.zero_le _, rfl, Hrow.out, hb1⟩
      case round =>
        obtain ⟨j, hj, rfl, Hr, hbt⟩ := hrel
        clear Hrow hb1
        have hbw := bthen hbe hbt
        by_cases hlj : j < k
        · have HL := Lib.hid (H.out.next hbw)
          obtain ⟨v, hv⟩ := get_some vs j (by rw [H.out.len, HR.out]; exact hlj)
          obtain ⟨zs, hz⟩ := get_some zss j (by rw [HR.out]; exact hlj)
          have hcell := HL.out.buf.cell hv
          have Ho := Lib.hid (HL.out.own j v zs hv hz)
          have Hs := Lib.hid (Hst.out j zs hz)
          have hs1' := Hsh.out j
          have hs2 := Hsh.out (j + 1)
          rw [Hs.out, List.length_append] at hs2
          clear hv hz
          go_wp2_with (at_builtin; go_must (refine wpList_append_ints wr rfl _ _ rfl wo.heap.size _ _ _ B _ zs Hr.out rfl rfl Ho.out (by omega) (by omega) hbt.size ?_); intro v' w1' hown' hbel'; have Hnew := Lib.hid hown'; clear hown')
          go_roundw
          case rel => exact ⟨j + 1, by omega, by go_num, (show World.ownsRow _ _ _ _ _ _ _ by rw [Hs.out, List.length_append]; exact Hnew.out), hbt.trans hbel'⟩
          case measure => simp [intOf]; omega
        · have hjn : j = k := by omega
          subst hjn
          have hr := Hr.out
          clear Hr
          generalize hq' : ((zss.take j).flatten).length = q' at hr
          obtain ⟨A, c', rfl, hl, ho⟩ := own_of_row hr
          have Hl := Lib.hid hl
          have Ho := Lib.hid ho
          clear hl ho hq' hr
          go_wp2_with fail
          go_ret
          rw [← Hall.out]
          exact ⟨A, _, c', rfl, Hl.out, Ho.out.less hbe.size, hbw⟩
end Go.Proofs.Ytofnknfoblkcfaa
