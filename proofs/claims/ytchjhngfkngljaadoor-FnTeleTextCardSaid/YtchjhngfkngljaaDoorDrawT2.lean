/- Machines that are drawn. No condition. -/
import Derived.Test.YtchjhngfkngljaaDoorDrawT
set_option linter.unusedVariables false
namespace Go.Proofs.YtchjhngfkngljaaDoor
open Go.RowKit

theorem ownS_next {w w' : World} {B n : Nat} {v : Value} {xs : List Value} (h : w.ownsRow B 9 1 v n xs) (hb : Below w.heap.size w w') : w'.ownsRow B 9 1 v n xs := by
  obtain ⟨hl, h⟩ := h
  refine ⟨hl, ?_⟩
  rcases h with h | ⟨g, cap, cur, hv, hB, hh, r⟩
  · exact .inl h
  · have hlt : g < w.heap.size := by
      rcases Nat.lt_or_ge g w.heap.size with h1 | h1
      · exact h1
      · rw [Array.getElem?_eq_none h1] at hh; cases hh
    exact .inr ⟨g, cap, cur, hv, hB, (hb.block g hlt).trans hh, r⟩
theorem ownS_away {w w' : World} {B n : Nat} {v : Value} {xs : List Value} {row : Option Nat} (h : w.ownsRow B 9 1 v n xs) (hg : w.grownBy w' row) (hd : v.ownBlock = none ∨ v.ownBlock ≠ row) : w'.ownsRow B 9 1 v n xs := h.kept hg hd
theorem ownS_set {w : World} {B n g1 j : Nat} {v u : Value} {xs : List Value} (h : w.ownsRow B 9 1 v n xs) (h1 : g1 < B) : (w.setCell ⟨g1, j, none⟩ u).ownsRow B 9 1 v n xs := by
  obtain ⟨hl, h⟩ := h
  refine ⟨hl, ?_⟩
  rcases h with h | ⟨g, cap, cur, hv, hB, hh, r⟩
  · exact .inl h
  · exact .inr ⟨g, cap, cur, hv, hB, (Below.heap_setCell w _ _ g (by show g ≠ g1; omega)).trans hh, r⟩
theorem ownS_less {w : World} {B B' n : Nat} {v : Value} {xs : List Value} (h : w.ownsRow B 9 1 v n xs) (hB' : B' ≤ B) : w.ownsRow B' 9 1 v n xs := by
  obtain ⟨hl, h⟩ := h
  refine ⟨hl, ?_⟩
  rcases h with h | ⟨g, cap, cur, hv, hB, r⟩
  · exact .inl h
  · exact .inr ⟨g, cap, cur, hv, by omega, r⟩
/-- A machine in a variable: block g1; its rows are of the call's own, from block B on. -/
structure Two (w : World) (B g1 k l : Nat) (a b : Value) (mo : ByteArray) (chi psi : List ByteArray) : Prop where
  box : Buf w g1 25 [a, b, .string mo]
  ra : w.ownsRow B 9 1 a k (scells chi)
  rb : w.ownsRow B 9 1 b l (scells psi)
  dif : a.ownBlock = none ∨ a.ownBlock ≠ b.ownBlock
  sa : ∀ s ∈ chi, s.size ≤ 100
  sb : ∀ s ∈ psi, s.size ≤ 100
  sm : mo.size ≤ 100
  lt : g1 < B
  bw : B ≤ w.heap.size
section
variable {w w' w1 : World} {B g1 k l : Nat} {a b : Value} {mo : ByteArray} {chi psi : List ByteArray}
theorem Two.next (h : Two w B g1 k l a b mo chi psi) (hb : Below w.heap.size w w') : Two w' B g1 k l a b mo chi psi :=
  ⟨h.box.next hb, ownS_next h.ra hb, ownS_next h.rb hb, h.dif, h.sa, h.sb, h.sm, h.lt, Nat.le_trans h.bw hb.size⟩
theorem row_ge {v : Value} {n : Nat} {xs : List Value} (h : w.ownsRow B 9 1 v n xs) {i : Nat} (hi : i < B) : v.ownBlock = none ∨ v.ownBlock ≠ some i := by
  rcases hb : v.ownBlock with _ | b
  · exact .inl rfl
  · refine .inr fun e => ?_
    injection e with e
    have := (h.lt b hb).1
    omega
theorem Two.away (h : Two w B g1 k l a b mo chi psi) {g : Nat} (hg : w.grownBy w' (some g)) (h1 : g < g1) : Two w' B g1 k l a b mo chi psi := by
  have hB := h.lt
  refine ⟨h.box.grown hg (by intro e; injection e with e; omega), ownS_away h.ra hg (row_ge h.ra (by omega)), ownS_away h.rb hg (row_ge h.rb (by omega)), h.dif, h.sa, h.sb, h.sm, h.lt, Nat.le_trans h.bw hg.size⟩
theorem Two.boxA (h : Two w B g1 k l a b mo chi psi) {o : Obj} (hg : (w.alloc o).grownBy w1 a.ownBlock) : Buf w1 g1 25 [a, b, .string mo] := by
  refine (h.box.alloc o).grown hg fun e => ?_
  rcases row_ge h.ra h.lt with h1 | h1
  · rw [h1] at e; cases e
  · exact h1 e.symm
theorem Two.boxB (h : Two w B g1 k l a b mo chi psi) {o : Obj} (hg : (w.alloc o).grownBy w1 b.ownBlock) : Buf w1 g1 25 [a, b, .string mo] := by
  refine (h.box.alloc o).grown hg fun e => ?_
  rcases row_ge h.rb h.lt with h1 | h1
  · rw [h1] at e; cases e
  · exact h1 e.symm
theorem sz_alloc (w : World) (o : Obj) : (w.alloc o).heap.size = w.heap.size + 1 := by simp
theorem Two.belA (h : Two w B g1 k l a b mo chi psi) {o : Obj} (hg : (w.alloc o).grownBy w1 a.ownBlock) (u : Value) (j : Nat) : Below g1 w (w1.setCell ⟨g1, j, none⟩ u) := by
  have h1 := h.lt
  have h2 := h.bw
  have hb : Below g1 w w1 := Below.grown ((Below.refl _ _).alloc (by omega) o) hg (by rw [sz_alloc]; omega) fun k hk => by
    have := (h.ra.lt k hk).1
    omega
  exact hb.setCell (p := ⟨g1, j, none⟩) (Nat.le_refl _) u
theorem Two.belB (h : Two w B g1 k l a b mo chi psi) {o : Obj} (hg : (w.alloc o).grownBy w1 b.ownBlock) (u : Value) (j : Nat) : Below g1 w (w1.setCell ⟨g1, j, none⟩ u) := by
  have h1 := h.lt
  have h2 := h.bw
  have hb : Below g1 w w1 := Below.grown ((Below.refl _ _).alloc (by omega) o) hg (by rw [sz_alloc]; omega) fun k hk => by
    have := (h.rb.lt k hk).1
    omega
  exact hb.setCell (p := ⟨g1, j, none⟩) (Nat.le_refl _) u
theorem mem_snoc {P : ByteArray → Prop} {l : List ByteArray} {z : ByteArray} (h : ∀ s ∈ l, P s) (hz : P z) : ∀ s ∈ l ++ [z], P s := by
  intro s hs
  rcases List.mem_append.1 hs with hs | hs
  · exact h s hs
  · simp at hs; rw [hs]; exact hz
theorem Two.addA (h : Two w B g1 k l a b mo chi psi) {v' : Value} {z : ByteArray} {o : Obj} (hz : z.size ≤ 100) (hown : w1.ownsRow B 9 1 v' (k + 1) (scells (chi ++ [z]))) (hg : (w.alloc o).grownBy w1 a.ownBlock)
    (hat0 : a.ownBlock = v'.ownBlock ∨ v'.ownBlock = some (w.heap.size + 1)) : Two (w1.setCell ⟨g1, 0, none⟩ v') B g1 (k + 1) l v' b mo (chi ++ [z]) psi := by
  have hat : v'.ownBlock = a.ownBlock ∨ v'.ownBlock = some (w.heap.size + 1) := hat0.imp Eq.symm id
  have hbx := (h.boxA hg).set 0 v'
  have hsz : (w.alloc o).heap.size = w.heap.size + 1 := sz_alloc _ _
  have h3 := hg.size
  rw [hsz] at h3
  have hrb : w1.ownsRow B 9 1 b l (scells psi) := ownS_away (h.rb.alloc o) hg (by
    rcases hb : b.ownBlock with _ | x
    · exact .inl rfl
    · rcases h.dif with hd | hd
      · rw [hd]; exact .inr (by simp)
      · rw [hb] at hd; exact .inr (Ne.symm hd))
  refine ⟨hbx, ownS_set hown h.lt, ownS_set hrb h.lt, ?_, mem_snoc h.sa hz, h.sb, h.sm, h.lt, ?_⟩
  · rcases hat with e | e
    · rw [e]; exact h.dif
    · refine .inr fun e2 => ?_
      have := (h.rb.lt (w.heap.size + 1) (by rw [← e2, e])).2
      omega
  · have := h.bw
    simp [World.setCell]
    omega
theorem Two.addB (h : Two w B g1 k l a b mo chi psi) {v' : Value} {z : ByteArray} {o : Obj} (hz : z.size ≤ 100) (hown : w1.ownsRow B 9 1 v' (l + 1) (scells (psi ++ [z]))) (hg : (w.alloc o).grownBy w1 b.ownBlock)
    (hat0 : b.ownBlock = v'.ownBlock ∨ v'.ownBlock = some (w.heap.size + 1)) : Two (w1.setCell ⟨g1, 1, none⟩ v') B g1 k (l + 1) a v' mo chi (psi ++ [z]) := by
  have hat : v'.ownBlock = b.ownBlock ∨ v'.ownBlock = some (w.heap.size + 1) := hat0.imp Eq.symm id
  have hbx := (h.boxB hg).set 1 v'
  have hsz : (w.alloc o).heap.size = w.heap.size + 1 := sz_alloc _ _
  have h3 := hg.size
  rw [hsz] at h3
  have hra : w1.ownsRow B 9 1 a k (scells chi) := ownS_away (h.ra.alloc o) hg h.dif
  refine ⟨hbx, ownS_set hra h.lt, ownS_set hown h.lt, ?_, h.sa, mem_snoc h.sb hz, h.sm, h.lt, ?_⟩
  · rcases hat with e | e
    · rw [e]; exact h.dif
    · rcases ha : a.ownBlock with _ | x
      · exact .inl rfl
      · refine .inr fun e2 => ?_
        rw [e] at e2
        have := (h.ra.lt (w.heap.size + 1) (by rw [ha, e2])).2
        omega
  · have := h.bw
    simp [World.setCell]
    omega
end
/-- A machine that is drawn: three wheels of each kind, of the call's own. -/
def DrM3 (w : World) (g p q : Nat) (e : Ending) (w' : World) : Prop :=
  ∃ (b1 c1 b2 c2 : Nat) (mo : ByteArray) (chi psi : List ByteArray) (p' : Nat), e = .returned (.agg #[.slice (some ⟨b1, 0, none⟩) 3 c1, .slice (some ⟨b2, 0, none⟩) 3 c2, .string mo]) ∧
    w'.ownsRow w.heap.size 9 1 (.slice (some ⟨b1, 0, none⟩) 3 c1) 3 (scells chi) ∧ w'.ownsRow w.heap.size 9 1 (.slice (some ⟨b2, 0, none⟩) 3 c2) 3 (scells psi) ∧ b1 ≠ b2 ∧
    (∀ s ∈ chi, s.size ≤ 100) ∧ (∀ s ∈ psi, s.size ≤ 100) ∧ mo.size ≤ 100 ∧ p' ≤ p + q ∧ Rd w' g p' ∧ w.grownBy w' (some g)
theorem zboxD (w : World) : Buf (w.alloc (.cells #[.slice none 0 0, .slice none 0 0, .string ⟨#[]⟩] 25)) w.heap.size 25 [.slice none 0 0, .slice none 0 0, .string ⟨#[]⟩] :=
  Buf.new w _ _ _ (fun j u hu => by simpa using hu) 0 0 (.inl (Nat.le_refl _))
theorem two_new (w : World) (mo : ByteArray) (hm : mo.size ≤ 100) : Two (w.alloc (.cells #[.slice none 0 0, .slice none 0 0, .string mo] 25)) (w.heap.size + 1) w.heap.size 0 0 (.slice none 0 0) (.slice none 0 0) mo [] [] :=
  ⟨tbox w none 0 0 none 0 0 mo, ⟨rfl, .inl ⟨rfl, rfl⟩⟩, ⟨rfl, .inl ⟨rfl, rfl⟩⟩, .inl rfl, by simp, by simp, hm, Nat.lt_succ_self _, by rw [sz_alloc]; exact Nat.le_refl _⟩
set_option maxHeartbeats 4000000 in
theorem spec_l16Some (g p : Nat) (w : World) (h : Rd w g p) (hp : p ≤ 80000) :
    Calls Tryd.prog 23 #[.pointer (some ⟨g, 0, none⟩)] w (DrM3 w g p 200) := by
  have hgl := h.lt
  have hz := zboxD w
  have hr0 := h.alloc (.cells #[.slice none 0 0, .slice none 0 0, .string ⟨#[]⟩] 25)
  have hg0 := galloc w (.cells #[.slice none 0 0, .slice none 0 0, .string ⟨#[]⟩] 25) (some g)
  go_enter Tryd.func23, Tryd.ntmps23
  go_wp2_with fail
  refine (spec_l15Wheel g p _ hr0 (by omega)).mono ?_
  rintro e v1 ⟨mo, p1, rfl, hmo, hp1, hr1, hg1⟩
  have hg01 := gthen hg0 hg1
  have hz1 := hz.grown hg1 (by intro e; injection e with e; omega)
  have hlt1 := hz1.lt
  have hT := two_new v1 mo (by omega)
  have hr2 := hr1.alloc (.cells #[.slice none 0 0, .slice none 0 0, .string mo] 25)
  have hz2 := hz1.alloc (.cells #[.slice none 0 0, .slice none 0 0, .string mo] 25)
  have hg2 := gthen hg01 (galloc v1 (.cells #[.slice none 0 0, .slice none 0 0, .string mo] 25) (some g))
  have HA := Lib.hid (And.intro hT (And.intro hr2 (And.intro hz2 hg2)))
  clear hz hr0 hg0 hz1 hT hr2 hz2 hg2 hr1 hg1 hg01 h
  go_wp2_with fail
  go_loopw [4] (fun i wr => ∃ (k q : Nat) (a b : Value) (chi psi : List ByteArray), k ≤ 3 ∧ i = .int .i64 k ∧ q ≤ p + 20 + 40 * k ∧ Two wr (v1.heap.size + 1) v1.heap.size k k a b mo chi psi ∧ Rd wr g q ∧ Buf wr w.heap.size 25 [.slice none 0 0, .slice none 0 0, .string ⟨#[]⟩] ∧ w.grownBy wr (some g)) (fun i _ => 3 - (intOf i).toNat)
  case atStart => exact ⟨0, p1, _, _, [], [], by omega, rfl, by omega, HA.out.1, HA.out.2.1, HA.out.2.2.1, HA.out.2.2.2⟩
  case round =>
    obtain ⟨k, q, a, b, chi, psi, hk, rfl, hq, hT, hr, hz, hg⟩ := hrel
    clear HA
    by_cases hlt : k < 3
    · have hbd : Below wr.heap.size wr wr.drew := (Below.refl _ _).drew
      have c0 : wr.cell? ⟨v1.heap.size, 0, none⟩ = some a := hT.box.cell (j := 0) rfl
      have HT := Lib.hid (hT.next hbd)
      have hrd := hr.next hbd
      have HZ := Lib.hid (hz.next hbd)
      have HG := Lib.hid (gthen hg (gbel hbd _))
      clear hT hr hz hg
      go_wp2_with fail
      go_region_law (first | (refine step_append_str v2 rfl _ _ rfl (v1.heap.size + 1) _ k _ z HT2.out.ra rfl rfl (by omega) HT2.out.bw ?_; intro g' cap w1 hown' hgr hat; have hbx := HT2.out.boxA hgr; have c3 : w1.cell? ⟨v1.heap.size, 0, none⟩ = some a := hbx.cell (j := 0) rfl; have f3 := hbx.free (j := 0) (by simp); have HO := Lib.hid (And.intro hown' (And.intro hgr hat)); clear hown' hgr hat hbx) | (go_simp; go_at_call 36; refine (spec_l15Wheel g q _ hrd (by omega)).mono ?_; rintro e v2 ⟨z, p2, rfl, hz, hp2, hr2, hg2⟩; have HT2 := Lib.hid (HT.out.away hg2 (by omega)); have c2 : v2.cell? ⟨v1.heap.size, 0, none⟩ = some a := HT2.out.box.cell (j := 0) rfl; have c2' : (v2.alloc (Obj.cells #[.string z] 9)).cell? ⟨v1.heap.size, 0, none⟩ = some a := (HT2.out.box.alloc _).cell (j := 0) rfl))
      all_goals
        have hT3 := HT2.out.addA (by omega) HO.out.1 HO.out.2.1 (HO.out.2.2.imp id (congrArg some))
        have hb3 := HT2.out.belA HO.out.2.1 (.slice (some ⟨g', 0, none⟩) (k + 1) cap) 0
        have hr3 := hr2.below hb3 (by omega)
        have hz3 := (HZ.out.grown hg2 (by intro e; injection e with e; omega)).below hb3 hlt1
        have hg3 := gbelow (gthen HG.out hg2) (hb3.mono (Nat.le_of_lt hlt1))
        clear c0 c2 c2' c3 f3 HT HZ HG HO HT2 hr2 hg2 hb3
        generalize w1.setCell ⟨v1.heap.size, 0, none⟩ (.slice (some ⟨g', 0, none⟩) (k + 1) cap) = w3 at hT3 hr3 hz3 hg3 ⊢
        have hbd3 : Below w3.heap.size w3 w3.drew := (Below.refl _ _).drew
        have d0 : w3.cell? ⟨v1.heap.size, 1, none⟩ = some b := hT3.box.cell (j := 1) rfl
        have HT3 := Lib.hid (hT3.next hbd3)
        have hrd3 := hr3.next hbd3
        have HZ3 := Lib.hid (hz3.next hbd3)
        have HG3 := Lib.hid (gthen hg3 (gbel hbd3 _))
        clear hT3 hr3 hz3 hg3
        go_wp2_with fail
        go_region_law (first | (refine step_append_str v4 rfl _ _ rfl (v1.heap.size + 1) _ k _ y HT4.out.rb rfl rfl (by omega) HT4.out.bw ?_; intro g6 cap6 w5 hown' hgr hat; have hbx := HT4.out.boxB hgr; have d3 : w5.cell? ⟨v1.heap.size, 1, none⟩ = some b := hbx.cell (j := 1) rfl; have f4 := hbx.free (j := 1) (by simp); have HP := Lib.hid (And.intro hown' (And.intro hgr hat)); clear hown' hgr hat hbx) | (go_simp; go_at_call 36; refine (spec_l15Wheel g p2 _ hrd3 (by omega)).mono ?_; rintro e v4 ⟨y, p4, rfl, hy, hp4, hr4, hg4⟩; have HT4 := Lib.hid (HT3.out.away hg4 (by omega)); have d2 : v4.cell? ⟨v1.heap.size, 1, none⟩ = some b := HT4.out.box.cell (j := 1) rfl; have d2' : (v4.alloc (Obj.cells #[.string y] 9)).cell? ⟨v1.heap.size, 1, none⟩ = some b := (HT4.out.box.alloc _).cell (j := 1) rfl))
        all_goals
          have hT5 := HT4.out.addB (by omega) HP.out.1 HP.out.2.1 (HP.out.2.2.imp id (congrArg some))
          have hb5 := HT4.out.belB HP.out.2.1 (.slice (some ⟨g6, 0, none⟩) (k + 1) cap6) 1
          have hr5 := hr4.below hb5 (by omega)
          have hz5 := (HZ3.out.grown hg4 (by intro e; injection e with e; omega)).below hb5 hlt1
          have hg5 := gbelow (gthen HG3.out hg4) (hb5.mono (Nat.le_of_lt hlt1))
          clear d0 d2 d2' d3 f4 HT3 HZ3 HG3 HP HT4 hr4 hg4 hb5 hrd3
          generalize w5.setCell ⟨v1.heap.size, 1, none⟩ (.slice (some ⟨g6, 0, none⟩) (k + 1) cap6) = w6 at hT5 hr5 hz5 hg5 ⊢
          go_wp2_with fail
          go_roundw
          case rel => exact ⟨k + 1, p4, _, _, _, _, by omega, by go_num, by omega, hT5, hr5, hz5, hg5⟩
          case measure => simp [intOf]; omega
    · have hk3 : k = 3 := by omega
      subst hk3
      obtain ⟨b1, c1, rfl, hb1, _⟩ := hT.ra.form (by omega)
      obtain ⟨b2, c2, rfl, hb2, _⟩ := hT.rb.form (by omega)
      have q0 := hT.box.cell (j := 0) rfl
      have q1 := hT.box.cell (j := 1) rfl
      have q2 := hT.box.cell (j := 2) rfl
      have r0 := hz.cell (j := 0) rfl
      have r1 := hz.cell (j := 1) rfl
      have r2 := hz.cell (j := 2) rfl
      have s0 := hz.free (j := 0) (by simp)
      have s1 := hz.free (j := 1) (by simp)
      have s2 := hz.free (j := 2) (by simp)
      have HF := Lib.hid (And.intro hT (And.intro hr (And.intro hz hg)))
      clear hT hr hz hg
      go_wp2_with fail
      clear q0 q1 q2 r0 r1 r2 s0 s1 s2
      obtain ⟨hT, hr, hz, hg⟩ := HF.out
      have hz6 := ((hz.set 0 (.slice (some ⟨b1, 0, none⟩) 3 c1)).set 1 (.slice (some ⟨b2, 0, none⟩) 3 c2)).set 2 (.string mo)
      have hra := ownS_set (j := 2) (u := .string mo) (ownS_set (j := 1) (u := .slice (some ⟨b2, 0, none⟩) 3 c2) (ownS_set (g1 := w.heap.size) (j := 0) (u := .slice (some ⟨b1, 0, none⟩) 3 c1) hT.ra (by omega)) (g1 := w.heap.size) (by omega)) (g1 := w.heap.size) (by omega)
      have hrb := ownS_set (j := 2) (u := .string mo) (ownS_set (j := 1) (u := .slice (some ⟨b2, 0, none⟩) 3 c2) (ownS_set (g1 := w.heap.size) (j := 0) (u := .slice (some ⟨b1, 0, none⟩) 3 c1) hT.rb (by omega)) (g1 := w.heap.size) (by omega)) (g1 := w.heap.size) (by omega)
      have hB6 := (((Below.refl w.heap.size wr).setCell (p := ⟨w.heap.size, 0, none⟩) (Nat.le_refl _) (.slice (some ⟨b1, 0, none⟩) 3 c1)).setCell (p := ⟨w.heap.size, 1, none⟩) (Nat.le_refl _) (.slice (some ⟨b2, 0, none⟩) 3 c2)).setCell (p := ⟨w.heap.size, 2, none⟩) (Nat.le_refl _) (.string mo)
      have p0 := hz6.cell (j := 0) rfl
      have p1 := hz6.cell (j := 1) rfl
      have p2 := hz6.cell (j := 2) rfl
      refine bodyPost_ret (v := .agg #[.slice (some ⟨b1, 0, none⟩) 3 c1, .slice (some ⟨b2, 0, none⟩) 3 c2, .string mo]) (by simp [results, Tryd.results23, go_sem, p0, p1, p2]) rfl ⟨b1, c1, b2, c2, mo, chi, psi, q, rfl, ?_, ?_, ?_, hT.sa, hT.sb, hT.sm, by omega, hr.below hB6 hgl, gbelow hg hB6⟩
      · exact ownS_less hra (by omega)
      · exact ownS_less hrb (by omega)
      · rcases hT.dif with hd | hd
        · cases hd
        · exact fun e => hd (by rw [e]; rfl)
end Go.Proofs.YtchjhngfkngljaaDoor
