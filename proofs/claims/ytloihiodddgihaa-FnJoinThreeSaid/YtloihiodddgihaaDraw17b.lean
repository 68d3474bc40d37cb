/- Two orders of places that are drawn: some integers each. No condition. -/
import Derived.Test.YtloihiodddgihaaDraw17
import Derived.Maps.AppendAt
set_option linter.unusedVariables false
namespace Go.Proofs.Ytloihiodddgihaa
open Go.RowKit

/-- Of what was there only block g and block blk have changed. -/
structure K2 (g : Nat) (blk : Option Nat) (w w' : World) : Prop where
  os : w'.os = w.os
  tape : w'.tape = w.tape
  output : w'.output = w.output
  size : w.heap.size ≤ w'.heap.size
  block : ∀ i, i < w.heap.size → i ≠ g → some i ≠ blk → w'.heap[i]? = w.heap[i]?
theorem K2.trans {g : Nat} {blk : Option Nat} {a b c : World} (h : K2 g blk a b) (k : K2 g blk b c) : K2 g blk a c :=
  ⟨k.os.trans h.os, k.tape.trans h.tape, k.output.trans h.output, Nat.le_trans h.size k.size, fun i hi hn hb => (k.block i (Nat.lt_of_lt_of_le hi h.size) hn hb).trans (h.block i hi hn hb)⟩
theorem K2.of_grown {g : Nat} {blk : Option Nat} {w w' : World} (h : w.grownBy w' (some g)) : K2 g blk w w' :=
  ⟨h.os, h.tape, h.output, h.size, fun i hi hn _ => h.block i hi (by intro e; injection e with e; exact hn e)⟩
theorem K2.of_own {g : Nat} {blk : Option Nat} {w w' : World} (h : w.grownBy w' blk) : K2 g blk w w' :=
  ⟨h.os, h.tape, h.output, h.size, fun i hi _ hb => h.block i hi hb⟩
theorem K2.below {g : Nat} {blk : Option Nat} {w w' : World} {B : Nat} (h : K2 g blk w w') (h1 : B ≤ g) (h2 : ∀ b, blk = some b → B ≤ b) (h3 : B ≤ w.heap.size) : Below B w w' :=
  ⟨h.os, h.tape, h.output, h.size, fun i hi => h.block i (by omega) (by omega) (fun e => by have := h2 i e.symm; omega)⟩
/-- Another row stays as it is. -/
theorem K2.own {g : Nat} {blk : Option Nat} {w w' : World} {B n : Nat} {v : Value} {xs : List Value} (h : K2 g blk w w') (ho : w.ownsRow B 3 1 v n xs) (h1 : v.ownBlock ≠ some g) (h2 : v.ownBlock = none ∨ v.ownBlock ≠ blk) : w'.ownsRow B 3 1 v n xs := by
  obtain ⟨hl, ho⟩ := ho
  refine ⟨hl, ?_⟩
  rcases ho with ho | ⟨b, cap, cur, hv, hB, hh, r⟩
  · exact .inl ho
  · have hlt : b < w.heap.size := by
      rcases Nat.lt_or_ge b w.heap.size with h3 | h3
      · exact h3
      · rw [Array.getElem?_eq_none h3] at hh; cases hh
    subst hv
    refine .inr ⟨b, cap, cur, rfl, hB, (h.block b hlt (fun e => h1 (by rw [e]; rfl)) (fun e => ?_)).trans hh, r⟩
    rcases h2 with h2 | h2
    · cases h2
    · exact h2 e

theorem wpList_append_int2 {ops : Array Oper} {rest : List Oper} {o : Oper} {a : Act} {Q : Exit → Act → World → Prop} (w : World) (hgd : o.guard = none) (s x : Operand)
    (ho : o.op = .call { callee := .builtin .append, args := #[s, x], argTypes := #[22, 22] }) (B : Nat) (v : Value) (n : Nat) (zs : List Int) (z : Int)
    (hown : w.ownsRow B 3 1 v n (icells zs)) (hs : a.eval s = v) (hx : a.eval x = .slice (some ⟨w.heap.size, 0, none⟩) 1 1) (hn : n ≤ 1000000) (hB : B ≤ w.heap.size)
    (h : ∀ v' w', w'.ownsRow B 3 1 v' (n + 1) (icells (zs ++ [z])) → (w.alloc (.cells #[.int .i64 z] 3)).grownBy w' v.ownBlock → (v'.ownBlock = v.ownBlock ∨ v'.ownBlock = some (w.heap.size + 1)) → wpList Try.prog ops Q rest (a.put o.dst v') w') :
    wpList Try.prog ops Q (o :: rest) a (w.alloc (.cells #[.int .i64 z] 3)) := by
  obtain ⟨i0, hi, hz0, hz1, hz2⟩ := info_parts info_int
  refine wpList_append_own_at _ hgd s x 22 ho B 3 i0 (.int .i64 0) 1 8 Try.underlying22 hi hz0 hz1 hz2 rfl (by decide) v n (icells zs) hs (hown.alloc _) ⟨w.heap.size, 0, none⟩ 1 1 [.int .i64 z] hx rfl ?_ ?_ ?_ ?_ ?_ ?_
  · intro j u hj
    match j, hj with
    | 0, hj =>
      simp at hj
      subst hj
      rw [show (⟨w.heap.size, 0, none⟩ : Addr).add 0 = ⟨w.heap.size, 0, none⟩ from rfl, World.cell?_alloc_mark]
      rfl
  · intro u hu
    simp at hu
    subst hu
    rfl
  · unfold maxLen; omega
  · omega
  · simp; omega
  · intro v' w' hown' hg _ hat
    exact h v' w' (by simpa [icells] using hown') hg (by simpa using hat)

/-- Places that are drawn: some integers, in the row that came or in a new one. -/
def DrQ (w : World) (B g p q n : Nat) (A : Option Addr) (e : Ending) (w' : World) : Prop :=
  ∃ A' n' c p' zs, e = .returned (.slice A' n' c) ∧ w'.ownsRow B 3 1 (.slice A' n' c) n' (icells zs) ∧ n' ≤ n + 1 ∧ p' ≤ p + q ∧ Rd w' g p' ∧ K2 g (Value.ownBlock (.slice A 0 0)) w w' ∧
    (Value.ownBlock (.slice A' 0 0) = Value.ownBlock (.slice A 0 0) ∨ ∃ b, Value.ownBlock (.slice A' 0 0) = some b ∧ w.heap.size ≤ b)
theorem ob (A : Option Addr) (n c : Nat) : Value.ownBlock (.slice A n c) = Value.ownBlock (.slice A 0 0) := by cases A <;> rfl

set_option maxHeartbeats 2000000 in
theorem spec_l17Bad2 (B g p n c : Nat) (A : Option Addr) (zs : List Int) (w : World) (h : Rd w g p) (hp : p ≤ 90000) (hn : n ≤ 300) (hown : w.ownsRow B 3 1 (.slice A n c) n (icells zs)) (hgB : g < B) (hBw : B ≤ w.heap.size) :
    Calls Try.prog 28 #[.pointer (some ⟨g, 0, none⟩), .slice A n c] w (DrQ w B g p 5 n A) := by
  have Hown := Lib.hid hown
  clear hown
  go_enter Try.func28, Try.ntmps28
  go_wp2_with fail
  refine (spec_pick g p _ w h (by omega) (by omega) (by omega)).mono ?_
  rintro e v1 ⟨m, rfl, hm, hr1, hg1⟩
  clear hm
  have Hown1 := Lib.hid (own_away Hown.out hg1 hgB)
  have hB1 : B ≤ v1.heap.size := Nat.le_trans hBw hg1.size
  by_cases h0 : m = 0
  · subst h0
    go_wp2_with fail
    refine (spec_num g (p + 1) 4 4 _ [0, -1, 40, 9223372036854775807] _ (hr1.alloc _) (by omega) (by omega) (by omega) ⟨v1.heap.size, 0, none⟩ rfl rfl (by show v1.heap.size ≠ g; omega) rfl
      (fun j z hz => cells_lit v1 [.int .i64 0, .int .i64 (-1), .int .i64 40, .int .i64 9223372036854775807] 3 j _ (by have := congrArg (Option.map (Value.int .i64)) hz; simpa [← List.getElem?_map] using this))).mono ?_
    rintro e v2 ⟨z, rfl, hz, hr2, hg2⟩
    clear hz
    have Hown2 := Lib.hid (own_away (Hown1.out.alloc _) hg2 hgB)
    have hB2 : B ≤ v2.heap.size := by have := hg2.size; simp at this; omega
    have hk2 : K2 g (Value.ownBlock (.slice A 0 0)) w v2 := ((K2.of_grown hg1).trans (K2.of_own (World.grownBy_alloc v1 _ _))).trans (K2.of_grown hg2)
    go_wp2_with (at_builtin; refine wpList_append_int2 v2 rfl _ _ rfl B _ n _ z Hown2.out rfl rfl (by omega) hB2 ?_; intro v' w1 hown' hgr' hat'; obtain ⟨A', c', rfl⟩ := row_slice hown'; have Ho := Lib.hid hown'; have Hat := Lib.hid hat'; clear hown' hat')
    go_ret
    have hbel' : Below B v2 w1 := Below.grown ((Below.refl _ _).alloc hB2 _) hgr' (by simp; omega) (fun k hk => (Hown2.out.lt k hk).1)
    have hat := Hat.out
    rw [ob A, ob A'] at hat
    rw [ob A] at hgr'
    refine ⟨_, _, _, _, _, rfl, Ho.out, by omega, by omega, hr2.below hbel' hgB, hk2.trans ((K2.of_own (World.grownBy_alloc v2 _ _)).trans (K2.of_own hgr')), ?_⟩
    rcases hat with hat | hat
    · exact .inl hat
    · exact .inr ⟨_, hat, by have := hk2.size; omega⟩
  · have b0 : ((m : Int) == 0) = false := by rw [beq_eq_false_iff_ne]; omega
    by_cases h1 : m = 1 ∧ 0 < n
    · obtain ⟨rfl, hn0⟩ := h1
      clear h0 b0
      obtain ⟨g', cp, hv, hBg, hlg⟩ := Hown1.out.form hn0
      injection hv with hA hc0 hcc
      subst hA
      subst hcc
      go_wp2_with fail
      refine (spec_pick g (p + 1) _ v1 hr1 (by omega) (by omega) (by omega)).mono ?_
      rintro e v2 ⟨i, rfl, hi, hr2, hg2⟩
      have hin : i < n := by omega
      clear hi
      go_wp2_with fail
      refine (spec_pick g (p + 1 + 1) _ v2 hr2 (by omega) (by omega) (by omega)).mono ?_
      rintro e v3 ⟨y, rfl, hy, hr3, hg3⟩
      clear hy
      have Hown3 := Lib.hid (own_away (own_away Hown1.out hg2 hgB) hg3 hgB)
      have hf := Hown3.out.frozenAt i
      obtain ⟨u, hcell⟩ : ∃ u, v3.cell? ⟨g', i, none⟩ = some u := by
        have hl := Hown3.out.1
        exact ⟨_, (Hown3.out.cellAt i (by omega)).trans (List.getElem?_eq_getElem (by omega))⟩
      have hk3 : K2 g (Value.ownBlock (.slice (some ⟨g', 0, none⟩) 0 0)) w v3 := ((K2.of_grown hg1).trans (K2.of_grown hg2)).trans (K2.of_grown hg3)
      go_wp2_with fail
      go_ret
      have hst2 := (Hown3.out.stored i (.int .i64 (y : Int))).2
      have hst := (Hown3.out.stored i (.int .i64 (y : Int))).1
      rw [icells_set] at hst
      have hb4 : Below B v3 (v3.setCell ⟨g', i, none⟩ (.int .i64 (y : Int))) := (Below.refl _ _).setCell hBg _
      exact ⟨_, _, _, _, _, rfl, hst, by omega, by omega, hr3.below hb4 hgB, hk3.trans (K2.of_own hst2), .inl rfl⟩
    · have hcase : (m = 1 ∧ n = 0) ∨ m ≠ 1 := by omega
      clear h1 h0
      rcases hcase with ⟨rfl, rfl⟩ | h1
      · clear b0
        go_wp2_with fail
        go_ret
        exact ⟨_, _, _, _, _, rfl, Hown1.out, by omega, by omega, hr1, K2.of_grown hg1, .inl rfl⟩
      · have b1 : ((m : Int) == 1) = false := by rw [beq_eq_false_iff_ne]; omega
        clear h1
        go_wp2_with fail
        go_ret
        exact ⟨_, _, _, _, _, rfl, Hown1.out, by omega, by omega, hr1, K2.of_grown hg1, .inl rfl⟩


/-- A call draws two lists of integers. -/
def RetAnyI2 (w : World) (m : Nat) (e : Ending) (w' : World) : Prop := ∃ A n c zs B k d ys, e = .returned (.tuple #[.slice A n c, .slice B k d]) ∧ zs.length = n ∧ ys.length = k ∧ n ≤ m ∧ k ≤ m ∧ Own w' w.heap.size A zs ∧ Own w' w.heap.size B ys ∧ Below w.heap.size w w'
set_option maxHeartbeats 2000000 in
theorem spec_DrawJoinPlaces (a : Option Addr) (len cap : Nat) (zs : List Int) (w : World) (h : IsRow .u8 w a len cap zs) :
    Calls Try.prog 15 #[.slice a len cap] w (RetAnyI2 w 100) := by
  go_enter Try.func15, Try.ntmps15
  go_wp2_with fail
  refine (spec_l21Open _ _ _ _ _ h).mono ?_
  rintro e v0 ⟨rfl, hr0, hb0⟩
  have hg0 := hr0.lt
  go_wp2_with fail
  refine (spec_pick _ _ _ _ hr0 (by omega) (by omega) (by omega)).mono ?_
  rintro e v1 ⟨k, rfl, hk, hr1, hg1⟩
  have hk' : k ≤ 10 := by omega
  have hs1 := hg1.size
  clear hk
  go_wp2_with fail
  refine (spec_l17Places _ _ k _ hr1 (by omega) (by omega)).mono ?_
  rintro e v2 ⟨v, p2, zs2, rfl, hown2, hp2, hr2, hg2⟩
  obtain ⟨A2, c2, rfl⟩ := row_slice hown2
  have hlt2 := hown2.lt
  have Hown2 := Lib.hid hown2
  have hs2 := hg2.size
  clear hown2
  go_wp2_with fail
  refine (spec_l17Places _ _ k _ hr2 (by omega) (by omega)).mono ?_
  rintro e v3 ⟨v, p3, zs3, rfl, hown3, hp3, hr3, hg3⟩
  obtain ⟨A3, c3, rfl⟩ := row_slice hown3
  have hlt3 := hown3.lt
  have Hown3 := Lib.hid hown3
  have hs3 := hg3.size
  clear hown3
  have Hown2' := Lib.hid (own_away Hown2.out hg3 (by omega))
  rw [ob] at hlt2 hlt3
  go_wp2_with fail
  refine (spec_l17Bad2 v1.heap.size _ p3 _ _ _ _ _ hr3 (by omega) (by omega) Hown2'.out (by omega) (by omega)).mono ?_
  rintro e v4 ⟨A4, n4, c4, p4, zs4, rfl, hown4, hn4, hp4, hr4, hk4, hat4⟩
  have Hown4 := Lib.hid hown4
  have hs4 := hk4.size
  clear hown4
  have Hown3' := Lib.hid (hk4.own Hown3.out (by
    rw [ob]
    intro e
    have := hlt3 _ e
    omega) (by
    rw [ob]
    cases h3 : Value.ownBlock (.slice A3 0 0) with
    | none => exact .inl rfl
    | some b3 =>
      refine .inr (fun e => ?_)
      have h1 := hlt3 _ h3
      have h2 := hlt2 _ e.symm
      omega))
  go_wp2_with fail
  refine (spec_l17Bad2 v2.heap.size _ p4 _ _ _ _ _ hr4 (by omega) (by omega) Hown3'.out (by omega) (by omega)).mono ?_
  rintro e v5 ⟨A5, n5, c5, p5, zs5, rfl, hown5, hn5, hp5, hr5, hk5, hat5⟩
  have Hown5 := Lib.hid hown5
  have hlt4 := Hown4.out.lt
  rw [ob] at hlt4
  clear hown5
  have Hown4' := Lib.hid (hk5.own Hown4.out (by
    rw [ob]
    intro e
    have := hlt4 _ e
    omega) (by
    rw [ob]
    cases h4 : Value.ownBlock (.slice A4 0 0) with
    | none => exact .inl rfl
    | some b4 =>
      refine .inr (fun e => ?_)
      have h3 := hlt3 _ e.symm
      rcases hat4 with hat | ⟨b, hat, hb⟩
      · rw [h4] at hat
        have := hlt2 _ hat.symm
        omega
      · rw [h4] at hat
        injection hat with hat
        omega))
  have R4 := Lib.hid (Own.of_row Hown4'.out)
  have R5 := Lib.hid (Own.of_row Hown5.out)
  go_wp2_with fail
  go_ret2
  have hw0 := hb0.size
  refine ⟨_, _, _, zs4, _, _, _, zs5, rfl, R4.out.1, R5.out.1, by omega, by omega, R4.out.2.less (by omega), R5.out.2.less (by omega), ?_⟩
  have hb3 := hb0.grown (gthen (gthen hg1 hg2) hg3) hb0.size (fun k hk => by injection hk with hk; omega)
  have hb4 := hb3.trans (hk4.below (B := w.heap.size) (Nat.le_refl _) (fun b hb => by have := hlt2 b hb; omega) (by omega))
  exact hb4.trans (hk5.below (B := w.heap.size) (Nat.le_refl _) (fun b hb => by have := hlt3 b hb; omega) (by omega))
end Go.Proofs.Ytloihiodddgihaa
