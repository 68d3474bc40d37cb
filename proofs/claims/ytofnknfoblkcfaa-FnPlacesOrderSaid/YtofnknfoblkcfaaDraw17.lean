/- Orders of places that are drawn: some integers. No condition. -/
import Derived.Test.YtofnknfoblkcfaaDraw1
import Derived.Test.YtofnknfoblkcfaaInts
import Derived.Deep.AppendLies
set_option linter.unusedVariables false
namespace Go.Proofs.Ytofnknfoblkcfaa
open Go.RowKit

theorem icells_map (l : List Int) : l.map (Value.int .i64) = icells l := rfl

/-- Some integers are drawn into a row of the call's own. -/
def DrI (w : World) (g p q n : Nat) (e : Ending) (w' : World) : Prop :=
  ∃ v p' zs, e = .returned v ∧ w'.ownsRow w.heap.size 3 1 v n (icells zs) ∧ p' ≤ p + q ∧ Rd w' g p' ∧ w.grownBy w' (some g)

theorem cell_after {w : World} {base g n cap : Nat} {zs : List Int} (h : w.ownsRow base 3 1 (.slice (some ⟨g, 0, none⟩) n cap) n (icells zs)) (k m : Nat) (y : Int) (hm : m < n) :
    ∃ u, (w.setCell ⟨g, k, none⟩ (.int .i64 y)).cell? ⟨g, m, none⟩ = some u := by
  have h2 := (h.stored k (.int .i64 y)).1
  have hl := h2.1
  refine ⟨((icells zs).set k (.int .i64 y))[m]'(by omega), ?_⟩
  rw [h2.cellAt m (by omega)]
  exact List.getElem?_eq_getElem _

set_option maxHeartbeats 2000000 in
theorem spec_l17Places (g p n : Nat) (w : World) (h : Rd w g p) (hp : p ≤ 90000) (hn : n ≤ 300) :
    Calls Try.prog 26 #[.pointer (some ⟨g, 0, none⟩), .int .i64 (n : Int)] w (DrI w g p 300 n) := by
  have hgl := h.lt
  have H := Lib.hid h
  clear h
  have hrow0 := World.ownsRow_lit (base := w.heap.size) (e := 3) (size := 1) w #[] 0 (Nat.le_refl _) (Nat.zero_le _) rfl
  have Hrow0 := Lib.hid hrow0
  clear hrow0
  go_enter Try.func26, Try.ntmps26
  go_wp2_with fail
  go_loopw [5, 6] (fun o i wr => ∃ (k : Nat) (zs : List Int), k ≤ n ∧ i = .int .i64 k ∧ wr.ownsRow w.heap.size 3 1 o k (icells zs) ∧ Rd wr g (p + k) ∧ w.grownBy wr (some g)) (fun _ i _ => n - (intOf i).toNat)
  case atStart => exact ⟨0, [], Nat.zero_le _, rfl, Hrow0.out, H.out.alloc _, galloc _ _ _⟩
  case round =>
    obtain ⟨k, zs, hk, rfl, hown, hr, hg⟩ := hrel
    have Hown := Lib.hid hown
    clear hown
    by_cases hlt : k < n
    · go_wp2_with fail
      refine (spec_pick g (p + k) _ wr hr (by omega) (by omega) (by omega)).mono ?_
      rintro e v1 ⟨m, rfl, hm, hr1, hg1⟩
      have hmk : m ≤ k := by omega
      clear hm
      have Hown1 := Lib.hid (Hown.out.kept hg1 (by
        rcases hb : u5.ownBlock with _ | b
        · exact .inl rfl
        · exact .inr (by intro e; injection e with e; have := (Hown.out.lt b hb).1; omega)))
      have Hlen : Hid (zs.length = k) := by have := Hown1.out.1; rw [icells_len, Nat.mul_one] at this; exact this
      obtain ⟨y, hy⟩ : ∃ y, (zs ++ [(k : Int)])[m]? = some y := ⟨_, List.getElem?_eq_getElem (by rw [List.length_append, Hlen.out]; simp; omega)⟩
      have Hy := Lib.hid hy
      have Hk : Hid ((zs ++ [(k : Int)])[k]? = some (k : Int)) := by show _ = _; rw [List.getElem?_append_right (by rw [Hlen.out]; exact Nat.le_refl _), Hlen.out, Nat.sub_self]; rfl
      clear hy
      go_wp2_with (at_builtin; refine wpList_append_int v1 rfl _ _ rfl w.heap.size _ k _ (k : Int) Hown1.out rfl rfl (by omega) (Nat.le_trans hg.size hg1.size) ?_; intro v' w1 hown' hbel'; obtain ⟨g', cp, rfl, hBg, hlg⟩ := hown'.form (Nat.succ_pos _); have hc1 := (hown'.cellAt k (by omega)).trans (icells_at Hk.out); have hc2 := (hown'.cellAt m (by omega)).trans (icells_at Hy.out); have hf1 := hown'.frozenAt k; have hf2 := (hown'.stored k (.int .i64 y)).1.frozenAt m; have hc3 := cell_after hown' k m y (by omega); have Ho := Lib.hid hown'; clear hown'; obtain ⟨u3, hc3⟩ := hc3)
      go_roundw
      case rel =>
        have h2 := (Ho.out.stored k (.int .i64 y)).1
        rw [icells_set] at h2
        have h3 := (h2.stored m (.int .i64 (k : Int))).1
        rw [icells_set] at h3
        have hb2 : Below w.heap.size v1 ((w1.setCell ⟨g', k, none⟩ (.int .i64 y)).setCell ⟨g', m, none⟩ (.int .i64 (k : Int))) := (hbel'.setCell hBg _).setCell hBg _
        exact ⟨k + 1, _, by omega, by go_num, h3, hr1.below hb2 hgl, gbelow (gthen hg hg1) hb2⟩
      case measure => simp [intOf]; omega
    · go_wp2
      go_ret
      have hkn : k = n := by omega
      subst hkn
      exact ⟨_, _, zs, rfl, Hown.out, by omega, hr, hg⟩

/-- Below block B only block g has changed. -/
structure Kb (B g : Nat) (w w' : World) : Prop where
  os : w'.os = w.os
  tape : w'.tape = w.tape
  output : w'.output = w.output
  size : w.heap.size ≤ w'.heap.size
  block : ∀ i, i < B → i ≠ g → w'.heap[i]? = w.heap[i]?
theorem Kb.refl (B g : Nat) (w : World) : Kb B g w w := ⟨rfl, rfl, rfl, Nat.le_refl _, fun _ _ _ => rfl⟩
theorem Kb.trans {B g : Nat} {a b c : World} (h : Kb B g a b) (k : Kb B g b c) : Kb B g a c :=
  ⟨k.os.trans h.os, k.tape.trans h.tape, k.output.trans h.output, Nat.le_trans h.size k.size, fun i hi hn => (k.block i hi hn).trans (h.block i hi hn)⟩
theorem Kb.of_grown {B g : Nat} {w w' : World} (h : w.grownBy w' (some g)) (hB : B ≤ w.heap.size) : Kb B g w w' :=
  ⟨h.os, h.tape, h.output, h.size, fun i hi hn => h.block i (by omega) (by intro e; injection e with e; omega)⟩
theorem Kb.of_below {B g : Nat} {w w' : World} (h : Below B w w') : Kb B g w w' := ⟨h.os, h.tape, h.output, h.size, fun i hi _ => h.block i hi⟩
theorem Kb.below {B g B0 : Nat} {w w' : World} (h : Kb B g w w') (h1 : B0 ≤ g) (h2 : B0 ≤ B) : Below B0 w w' := ⟨h.os, h.tape, h.output, h.size, fun i hi => h.block i (by omega) (by omega)⟩

/-- Places that are drawn: some integers, in a row of the call's own. -/
def DrP (w : World) (B g p q n : Nat) (e : Ending) (w' : World) : Prop :=
  ∃ A n' c p' zs, e = .returned (.slice A n' c) ∧ w'.ownsRow B 3 1 (.slice A n' c) n' (icells zs) ∧ n' ≤ n + 1 ∧ p' ≤ p + q ∧ Rd w' g p' ∧ Kb B g w w'
theorem own_away {w w' : World} {B g n : Nat} {v : Value} {xs : List Value} (h : w.ownsRow B 3 1 v n xs) (hg : w.grownBy w' (some g)) (hgB : g < B) : w'.ownsRow B 3 1 v n xs :=
  h.kept hg (by
    rcases hb : v.ownBlock with _ | b
    · exact .inl rfl
    · exact .inr (by intro e; injection e with e; have := (h.lt b hb).1; omega))
theorem row_slice {w : World} {B n : Nat} {v : Value} {zs : List Int} (h : w.ownsRow B 3 1 v n (icells zs)) : ∃ A c, v = .slice A n c := by
  obtain ⟨A, c, hv, _⟩ := own_of_row h
  exact ⟨A, c, hv⟩

set_option maxHeartbeats 2000000 in
theorem spec_l17Bad (B g p n c : Nat) (A : Option Addr) (zs : List Int) (w : World) (h : Rd w g p) (hp : p ≤ 90000) (hn : n ≤ 300) (hown : w.ownsRow B 3 1 (.slice A n c) n (icells zs)) (hgB : g < B) (hBw : B ≤ w.heap.size) :
    Calls Try.prog 25 #[.pointer (some ⟨g, 0, none⟩), .slice A n c] w (DrP w B g p 5 n) := by
  have Hown := Lib.hid hown
  clear hown
  go_enter Try.func25, Try.ntmps25
  go_wp2_with fail
  refine (spec_pick g p _ w h (by omega) (by omega) (by omega)).mono ?_
  rintro e v1 ⟨m, rfl, hm, hr1, hg1⟩
  clear hm
  have Hown1 := Lib.hid (own_away Hown.out hg1 hgB)
  have hB1 : B ≤ v1.heap.size := Nat.le_trans hBw hg1.size
  by_cases h0 : m = 0
  · subst h0
    go_wp2_with fail
    refine (spec_num g (p + 1) 4 4 _ [0, -1, 40, 9223372036854775807] _ (hr1.alloc _) (by omega) (by omega) (by omega) ⟨v1.heap.size, 0, none⟩ rfl rfl (by show v1.heap.size ≠ g; omega) rfl
      (fun j z hz => cells_lit v1 [.int .i64 0, .int .i64 (-1), .int .i64 40, .int .i64 9223372036854775807] 3 j _ (by have := congrArg (Option.map (Value.int .i64)) hz; simpa [← List.getElem?_map] using this))).mono ?_
    rintro e v2 ⟨z, rfl, hz, hr2, hg2⟩
    clear hz
    have Hown2 := Lib.hid (own_away (Hown1.out.alloc _) hg2 hgB)
    have hB2 : B ≤ v2.heap.size := by have := hg2.size; simp at this; omega
    have hk2 : Kb B g w v2 := ((Kb.of_grown hg1 hBw).trans (Kb.of_below ((Below.refl _ _).alloc hB1 _))).trans (Kb.of_grown hg2 (by simp; omega))
    go_wp2_with (at_builtin; refine wpList_append_int v2 rfl _ _ rfl B _ n _ z Hown2.out rfl rfl (by omega) hB2 ?_; intro v' w1 hown' hbel'; obtain ⟨A', c', rfl⟩ := row_slice hown'; have Ho := Lib.hid hown'; clear hown')
    go_ret
    exact ⟨_, _, _, _, _, rfl, Ho.out, by omega, by omega, hr2.below hbel' hgB, hk2.trans (Kb.of_below hbel')⟩
  · have b0 : ((m : Int) == 0) = false := by rw [beq_eq_false_iff_ne]; omega
    by_cases h1 : m = 1 ∧ 0 < n
    · obtain ⟨rfl, hn0⟩ := h1
      clear h0 b0
      obtain ⟨g', cp, hv, hBg, hlg⟩ := Hown1.out.form hn0
      injection hv with hA hc0 hcc
      subst hA
      subst hcc
      go_wp2_with fail
      refine (spec_pick g (p + 1) _ v1 hr1 (by omega) (by omega) (by omega)).mono ?_
      rintro e v2 ⟨i, rfl, hi, hr2, hg2⟩
      have hin : i < n := by omega
      clear hi
      go_wp2_with fail
      refine (spec_pick g (p + 1 + 1) _ v2 hr2 (by omega) (by omega) (by omega)).mono ?_
      rintro e v3 ⟨y, rfl, hy, hr3, hg3⟩
      clear hy
      have Hown3 := Lib.hid (own_away (own_away Hown1.out hg2 hgB) hg3 hgB)
      have hf := Hown3.out.frozenAt i
      obtain ⟨u, hcell⟩ : ∃ u, v3.cell? ⟨g', i, none⟩ = some u := by
        have hl := Hown3.out.1
        exact ⟨_, (Hown3.out.cellAt i (by omega)).trans (List.getElem?_eq_getElem (by omega))⟩
      have hk3 : Kb B g w v3 := ((Kb.of_grown hg1 hBw).trans (Kb.of_grown hg2 hB1)).trans (Kb.of_grown hg3 (Nat.le_trans hB1 hg2.size))
      go_wp2_with fail
      go_ret
      have hst := (Hown3.out.stored i (.int .i64 (y : Int))).1
      rw [icells_set] at hst
      have hb4 : Below B v3 (v3.setCell ⟨g', i, none⟩ (.int .i64 (y : Int))) := (Below.refl _ _).setCell hBg _
      exact ⟨_, _, _, _, _, rfl, hst, by omega, by omega, hr3.below hb4 hgB, hk3.trans (Kb.of_below hb4)⟩
    · have hcase : (m = 1 ∧ n = 0) ∨ m ≠ 1 := by omega
      clear h1 h0
      rcases hcase with ⟨rfl, rfl⟩ | h1
      · clear b0
        go_wp2_with fail
        go_ret
        exact ⟨_, _, _, _, _, rfl, Hown1.out, by omega, by omega, hr1, Kb.of_grown hg1 hBw⟩
      · have b1 : ((m : Int) == 1) = false := by rw [beq_eq_false_iff_ne]; omega
        clear h1
        go_wp2_with fail
        go_ret
        exact ⟨_, _, _, _, _, rfl, Hown1.out, by omega, by omega, hr1, Kb.of_grown hg1 hBw⟩

/-- A call draws some integers. -/
def RetAnyI (w : World) (m : Nat) (e : Ending) (w' : World) : Prop := ∃ A n c zs, e = .returned (.slice A n c) ∧ zs.length = n ∧ n ≤ m ∧ Own w' w.heap.size A zs ∧ Below w.heap.size w w'
theorem Own.of_row {w : World} {B n c : Nat} {A : Option Addr} {zs : List Int} (h : w.ownsRow B 3 1 (.slice A n c) n (icells zs)) : zs.length = n ∧ Own w B A zs := by
  obtain ⟨A', c', hv, hl, ho⟩ := own_of_row h
  injection hv with h1 h2 h3
  subst h1
  exact ⟨hl, ho⟩
end Go.Proofs.Ytofnknfoblkcfaa
