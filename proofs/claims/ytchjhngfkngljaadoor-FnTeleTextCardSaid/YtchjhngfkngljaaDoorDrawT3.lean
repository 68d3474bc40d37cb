/- Machines that are drawn, some of them not valid. No condition. -/
import Derived.Test.YtchjhngfkngljaaDoorDrawT2
set_option linter.unusedVariables false
namespace Go.Proofs.YtchjhngfkngljaaDoor
open Go.RowKit

/-- A machine that is drawn: rows of strings of the call's own. -/
def DrM (w : World) (g p q : Nat) (e : Ending) (w' : World) : Prop :=
  ∃ (A : Option Addr) (n c : Nat) (B : Option Addr) (m d : Nat) (mo : ByteArray) (chi psi : List ByteArray) (p' : Nat), e = .returned (.agg #[.slice A n c, .slice B m d, .string mo]) ∧
    SOwn w' w.heap.size w'.heap.size A chi ∧ SOwn w' w.heap.size w'.heap.size B psi ∧ chi.length = n ∧ psi.length = m ∧ (n ≤ 10 ∧ n ≤ c) ∧ (m ≤ 10 ∧ m ≤ d) ∧
    (∀ s ∈ chi, s.size ≤ 100) ∧ (∀ s ∈ psi, s.size ≤ 100) ∧ mo.size ≤ 100 ∧ p' ≤ p + q ∧ Rd w' g p' ∧ w.grownBy w' (some g)
theorem sown_of {w : World} {B n b c : Nat} {chi : List ByteArray} (h : w.ownsRow B 9 1 (.slice (some ⟨b, 0, none⟩) n c) n (scells chi)) : chi.length = n ∧ SOwn w B w.heap.size (some ⟨b, 0, none⟩) chi := by
  obtain ⟨hl, h⟩ := h
  rw [scells_len, Nat.mul_one] at hl
  refine ⟨hl, ?_⟩
  rcases h with ⟨h, _⟩ | ⟨g, cap, cur, hv, hB, hh, hnc, hcm, hcs, ht⟩
  · cases h
  · injection hv with h1 h2 h3
    injection h1 with h1
    injection h1 with h1
    subst h1
    have hb : Buf w b 9 (scells chi) := ⟨cur, 0, 0, hh, .inl (Nat.le_refl _), fun j u hu => by
      rw [← ht, List.getElem?_take] at hu
      split at hu
      · rw [← Array.getElem?_toList]; exact hu
      · cases hu⟩
    exact .inr ⟨b, rfl, hB, hb.lt, hb⟩
theorem own_cap {w : World} {B n b c : Nat} {t : TypeId} {xs : List Value} (h : w.ownsRow B t 1 (.slice (some ⟨b, 0, none⟩) n c) n xs) : n ≤ c := by
  obtain ⟨_, ⟨h, _⟩ | ⟨g, cap, cur, hv, hB, hh, hnc, _⟩⟩ := h
  · cases h
  · injection hv with h1 h2 h3
    omega
theorem SOwn.grown {w w' : World} {lo hi g : Nat} {A : Option Addr} {zs : List ByteArray} (h : SOwn w lo hi A zs) (hg : w.grownBy w' (some g)) (h1 : g < lo) : SOwn w' lo hi A zs := by
  rcases h with h | ⟨b, hA, h3, h4, h⟩
  · exact .inl h
  · exact .inr ⟨b, hA, h3, h4, h.grown hg (by intro e; injection e with e; omega)⟩
theorem row_some {w : World} {B n b c j : Nat} {chi : List ByteArray} (h : w.ownsRow B 9 1 (.slice (some ⟨b, 0, none⟩) n c) n (scells chi)) (hj : j < n) : ∃ u, w.cell? ⟨b, j, none⟩ = some u := by
  have hl := h.1
  exact ⟨_, (h.cellAt j (by omega)).trans (List.getElem?_eq_getElem (by omega))⟩
/-- While a machine is drawn: w is the world of the call; the machine lies in block g1. -/
structure Opn (w v : World) (g g1 q : Nat) (A B : Value) (mo : ByteArray) (chi psi : List ByteArray) (n m : Nat) : Prop where
  box : Buf v g1 25 [A, B, .string mo]
  ra : v.ownsRow (w.heap.size + 1) 9 1 A n (scells chi)
  rb : v.ownsRow (w.heap.size + 1) 9 1 B m (scells psi)
  ga : A.ownBlock ≠ some g1
  gb : B.ownBlock ≠ some g1
  dif : A.ownBlock ≠ B.ownBlock
  res : Buf v w.heap.size 25 [.slice none 0 0, .slice none 0 0, .string ⟨#[]⟩]
  rd : Rd v g q
  gr : w.grownBy v (some g)
  lt : w.heap.size < g1
  sa : ∀ s ∈ chi, s.size ≤ 100
  sb : ∀ s ∈ psi, s.size ≤ 100
  sm : mo.size ≤ 100
section
variable {w v v' : World} {g g1 q : Nat} {A B : Value} {mo : ByteArray} {chi psi : List ByteArray} {n m : Nat}
theorem Opn.away (h : Opn w v g g1 q A B mo chi psi n m) (hgl : g < w.heap.size) (hg : v.grownBy v' (some g)) {q' : Nat} (hr : Rd v' g q') : Opn w v' g g1 q' A B mo chi psi n m := by
  have := h.lt
  exact ⟨h.box.grown hg (by intro e; injection e with e; omega), ownS_away h.ra hg (row_ge h.ra (by omega)), ownS_away h.rb hg (row_ge h.rb (by omega)), h.ga, h.gb, h.dif, h.res.grown hg (by intro e; injection e with e; omega), hr, gthen h.gr hg, h.lt, h.sa, h.sb, h.sm⟩
theorem Opn.next (h : Opn w v g g1 q A B mo chi psi n m) (hb : Below v.heap.size v v') : Opn w v' g g1 q A B mo chi psi n m :=
  ⟨h.box.next hb, ownS_next h.ra hb, ownS_next h.rb hb, h.ga, h.gb, h.dif, h.res.next hb, h.rd.next hb, gthen h.gr (gbel hb _), h.lt, h.sa, h.sb, h.sm⟩
theorem Opn.setA {b c j : Nat} {z : ByteArray} (h : Opn w v g g1 q (.slice (some ⟨b, 0, none⟩) n c) B mo chi psi n m) (hgl : g < w.heap.size) (hz : z.size ≤ 100) : Opn w (v.setCell ⟨b, j, none⟩ (.string z)) g g1 q (.slice (some ⟨b, 0, none⟩) n c) B mo (chi.set j z) psi n m := by
  obtain ⟨h1, h2⟩ := h.ra.stored j (.string z)
  have hb := (h.ra.lt b rfl).1
  have e1 : b ≠ g1 := fun e => h.ga (by rw [e]; rfl)
  have hbe : Below (w.heap.size + 1) v (v.setCell ⟨b, j, none⟩ (.string z)) := (Below.refl _ _).setCell (p := ⟨b, j, none⟩) hb _
  refine ⟨h.box.far (fun e => e1 e.symm) _, by rw [scells_set] at h1; exact h1, ownS_away h.rb h2 (.inr (fun e => h.dif e.symm)), h.ga, h.gb, h.dif, h.res.below hbe (Nat.lt_succ_self _), h.rd.below hbe (by omega), gbelow h.gr (hbe.mono (Nat.le_succ _)), h.lt, ?_, h.sb, h.sm⟩
  intro s hs
  rcases List.mem_or_eq_of_mem_set hs with hs | hs
  · exact h.sa s hs
  · rw [hs]; exact hz
theorem Opn.appB {o : Obj} {b c : Nat} {z : ByteArray} (h : Opn w v g g1 q A B mo chi psi n m) (hgl : g < w.heap.size) (hg1 : g1 < v.heap.size) (hz : z.size ≤ 100) (hown : v'.ownsRow (w.heap.size + 1) 9 1 (.slice (some ⟨b, 0, none⟩) (m + 1) c) (m + 1) (scells (psi ++ [z])))
    (hg : (v.alloc o).grownBy v' B.ownBlock) (hat : B.ownBlock = some b ∨ b = v.heap.size + 1) : Opn w (v'.setCell ⟨g1, 1, none⟩ (.slice (some ⟨b, 0, none⟩) (m + 1) c)) g g1 q A (.slice (some ⟨b, 0, none⟩) (m + 1) c) mo chi (psi ++ [z]) n (m + 1) := by
  have hlt := h.lt
  have hbx : Buf v' g1 25 [A, B, .string mo] := (h.box.alloc o).grown hg (fun e => h.gb e.symm)
  have hbe : Below (w.heap.size + 1) v v' := Below.grown ((Below.refl _ _).alloc (by omega) o) hg (by rw [sz_alloc]; omega) fun k hk => (h.rb.lt k hk).1
  have hbe2 : Below (w.heap.size + 1) v (v'.setCell ⟨g1, 1, none⟩ (.slice (some ⟨b, 0, none⟩) (m + 1) c)) := hbe.setCell (p := ⟨g1, 1, none⟩) hlt _
  have hra : v'.ownsRow (w.heap.size + 1) 9 1 A n (scells chi) := ownS_away (h.ra.alloc o) hg (.inr h.dif)
  have far : ∀ {u : Value} {k : Nat} {xs : List Value}, v'.ownsRow (w.heap.size + 1) 9 1 u k xs → u.ownBlock ≠ some g1 → (v'.setCell ⟨g1, 1, none⟩ (.slice (some ⟨b, 0, none⟩) (m + 1) c)).ownsRow (w.heap.size + 1) 9 1 u k xs := by
    intro u k xs ho hne
    obtain ⟨hl, ho⟩ := ho
    refine ⟨hl, ?_⟩
    rcases ho with ho | ⟨gg, cap, cur, hv, hB, hh, r⟩
    · exact .inl ho
    · refine .inr ⟨gg, cap, cur, hv, hB, (Below.heap_setCell v' _ _ gg ?_).trans hh, r⟩
      show gg ≠ g1
      intro e
      subst e
      rw [hv] at hne
      exact hne rfl
  have hgb : Value.ownBlock (.slice (some ⟨b, 0, none⟩) (m + 1) c) ≠ some g1 := by
    rcases hat with e | e
    · exact fun e2 => h.gb (e.trans e2)
    · intro e2
      have e3 : b = g1 := Option.some.inj e2
      omega
  have hdif : A.ownBlock ≠ Value.ownBlock (.slice (some ⟨b, 0, none⟩) (m + 1) c) := by
    rcases hat with e | e
    · exact fun e2 => h.dif (e2.trans e.symm)
    · intro e2
      have := (h.ra.lt b e2).2
      omega
  exact ⟨hbx.set 1 _, far hra h.ga, far hown hgb, h.ga, hgb, hdif, h.res.below hbe2 (Nat.lt_succ_self _), h.rd.below hbe2 (by omega), gbelow h.gr (hbe2.mono (Nat.le_succ _)), h.lt, h.sa, mem_snoc h.sb hz, h.sm⟩
theorem Opn.setMo {z : ByteArray} (h : Opn w v g g1 q A B mo chi psi n m) (hgl : g < w.heap.size) (hz : z.size ≤ 100) : Opn w (v.setCell ⟨g1, 2, none⟩ (.string z)) g g1 q A B z chi psi n m := by
  have hlt := h.lt
  have hbe2 : Below (w.heap.size + 1) v (v.setCell ⟨g1, 2, none⟩ (.string z)) := (Below.refl _ _).setCell (p := ⟨g1, 2, none⟩) hlt _
  have far : ∀ {u : Value} {k : Nat} {xs : List Value}, v.ownsRow (w.heap.size + 1) 9 1 u k xs → u.ownBlock ≠ some g1 → (v.setCell ⟨g1, 2, none⟩ (.string z)).ownsRow (w.heap.size + 1) 9 1 u k xs := by
    intro u k xs ho hne
    obtain ⟨hl, ho⟩ := ho
    refine ⟨hl, ?_⟩
    rcases ho with ho | ⟨gg, cap, cur, hv, hB, hh, r⟩
    · exact .inl ho
    · refine .inr ⟨gg, cap, cur, hv, hB, (Below.heap_setCell v _ _ gg ?_).trans hh, r⟩
      show gg ≠ g1
      intro e
      subst e
      rw [hv] at hne
      exact hne rfl
  exact ⟨h.box.set 2 _, far h.ra h.ga, far h.rb h.gb, h.ga, h.gb, h.dif, h.res.below hbe2 (Nat.lt_succ_self _), h.rd.below hbe2 (by omega), gbelow h.gr (hbe2.mono (Nat.le_succ _)), h.lt, h.sa, h.sb, hz⟩
end
abbrev fin3 (w v : World) (b1 n c1 b2 m c2 : Nat) (mo : ByteArray) : World := ((v.setCell ⟨w.heap.size, 0, none⟩ (.slice (some ⟨b1, 0, none⟩) n c1)).setCell ⟨w.heap.size, 1, none⟩ (.slice (some ⟨b2, 0, none⟩) m c2)).setCell ⟨w.heap.size, 2, none⟩ (.string mo)
theorem opn_res {w v : World} {g g1 q b1 c1 b2 c2 n m : Nat} {mo : ByteArray} {chi psi : List ByteArray} (h : Opn w v g g1 q (.slice (some ⟨b1, 0, none⟩) n c1) (.slice (some ⟨b2, 0, none⟩) m c2) mo chi psi n m) :
    Buf (fin3 w v b1 n c1 b2 m c2 mo) w.heap.size 25 [.slice (some ⟨b1, 0, none⟩) n c1, .slice (some ⟨b2, 0, none⟩) m c2, .string mo] :=
  ((h.res.set 0 (.slice (some ⟨b1, 0, none⟩) n c1)).set 1 (.slice (some ⟨b2, 0, none⟩) m c2)).set 2 (.string mo)
theorem opn_fin {w v : World} {g g1 q p b1 c1 b2 c2 n m : Nat} {mo : ByteArray} {chi psi : List ByteArray} (h : Opn w v g g1 q (.slice (some ⟨b1, 0, none⟩) n c1) (.slice (some ⟨b2, 0, none⟩) m c2) mo chi psi n m) (hgl : g < w.heap.size) (hn : n ≤ 10) (hm : m ≤ 10) (hq : q ≤ p + 300) :
    DrM w g p 300 (.returned (.agg #[.slice (some ⟨b1, 0, none⟩) n c1, .slice (some ⟨b2, 0, none⟩) m c2, .string mo])) (fin3 w v b1 n c1 b2 m c2 mo) := by
  have hra := ownS_set (j := 2) (u := .string mo) (ownS_set (j := 1) (u := .slice (some ⟨b2, 0, none⟩) m c2) (ownS_set (g1 := w.heap.size) (j := 0) (u := .slice (some ⟨b1, 0, none⟩) n c1) h.ra (by omega)) (g1 := w.heap.size) (by omega)) (g1 := w.heap.size) (by omega)
  have hrb := ownS_set (j := 2) (u := .string mo) (ownS_set (j := 1) (u := .slice (some ⟨b2, 0, none⟩) m c2) (ownS_set (g1 := w.heap.size) (j := 0) (u := .slice (some ⟨b1, 0, none⟩) n c1) h.rb (by omega)) (g1 := w.heap.size) (by omega)) (g1 := w.heap.size) (by omega)
  have hB6 : Below w.heap.size v (fin3 w v b1 n c1 b2 m c2 mo) := (((Below.refl w.heap.size v).setCell (p := ⟨w.heap.size, 0, none⟩) (Nat.le_refl _) (.slice (some ⟨b1, 0, none⟩) n c1)).setCell (p := ⟨w.heap.size, 1, none⟩) (Nat.le_refl _) (.slice (some ⟨b2, 0, none⟩) m c2)).setCell (p := ⟨w.heap.size, 2, none⟩) (Nat.le_refl _) (.string mo)
  obtain ⟨l1, o1⟩ := sown_of (ownS_less hra (Nat.le_succ _))
  obtain ⟨l2, o2⟩ := sown_of (ownS_less hrb (Nat.le_succ _))
  exact ⟨_, n, c1, _, m, c2, mo, chi, psi, q, rfl, o1, o2, l1, l2, ⟨hn, own_cap h.ra⟩, ⟨hm, own_cap h.rb⟩, h.sa, h.sb, h.sm, hq, h.rd.below hB6 hgl, gbelow h.gr hB6⟩
set_option maxHeartbeats 4000000 in
theorem spec_l16Open (g p : Nat) (w : World) (h : Rd w g p) (hp : p ≤ 70000) :
    Calls Tryd.prog 16 #[.pointer (some ⟨g, 0, none⟩)] w (DrM w g p 300) := by
  have hgl := h.lt
  have hz := zboxD w
  have hr0 := h.alloc (.cells #[.slice none 0 0, .slice none 0 0, .string ⟨#[]⟩] 25)
  have hg0 := galloc w (.cells #[.slice none 0 0, .slice none 0 0, .string ⟨#[]⟩] 25) (some g)
  go_enter Tryd.func16, Tryd.ntmps16
  go_wp2_with fail
  refine (spec_l16Some g p _ hr0 (by omega)).mono ?_
  rintro e v1 ⟨b1, c1, b2, c2, mo, chi, psi, p1, rfl, ra, rb, hne, sa, sb, sm, hp1, hr1, hg1⟩
  rw [sz_alloc] at ra rb
  have hz1 := hz.grown hg1 (by intro e; injection e with e; omega)
  have hO1 : Opn w (v1.alloc (.cells #[.slice (some ⟨b1, 0, none⟩) 3 c1, .slice (some ⟨b2, 0, none⟩) 3 c2, .string mo] 25)) g v1.heap.size p1 (.slice (some ⟨b1, 0, none⟩) 3 c1) (.slice (some ⟨b2, 0, none⟩) 3 c2) mo chi psi 3 3 :=
    ⟨tbox v1 _ 3 c1 _ 3 c2 mo, ra.alloc _, rb.alloc _, fun e => Nat.ne_of_lt (ra.lt b1 rfl).2 (Option.some.inj e), fun e => Nat.ne_of_lt (rb.lt b2 rfl).2 (Option.some.inj e), fun e => hne (Option.some.inj e), hz1.alloc _, hr1.alloc _, gthen (gthen hg0 hg1) (galloc _ _ _), hz1.lt, sa, sb, sm⟩
  have HO1 := Lib.hid hO1
  have hrd1 := hO1.rd
  clear hz hr0 hg0 hz1 hO1 ra rb hr1 hg1 h sa sb sm hne
  go_wp2_with fail
  refine (spec_pick g p1 24 _ hrd1 (by omega) (by omega) (by omega)).mono ?_
  rintro e v2 ⟨m, rfl, hm, hr2, hg2⟩
  have hO2 := HO1.out.away hgl hg2 hr2
  clear hm HO1 hrd1 hr2 hg2
  by_cases h0 : m = 0
  · subst h0
    have hbd : Below v2.heap.size v2 v2.drew := (Below.refl _ _).drew
    have c0 : v2.cell? ⟨v1.heap.size, 0, none⟩ = some (.slice (some ⟨b1, 0, none⟩) 3 c1) := hO2.box.cell (j := 0) rfl
    have c0' : (v2.alloc (.cells #[.string ⟨#[]⟩, .string ⟨#[49]⟩, .string ⟨#[48, 49, 50, 51]⟩, .string ⟨#[48, 49, 48, 49, 48, 49, 48, 49, 48, 49]⟩] 9)).cell? ⟨v1.heap.size, 0, none⟩ = some (.slice (some ⟨b1, 0, none⟩) 3 c1) := (hO2.box.alloc _).cell (j := 0) rfl
    have HO2 := Lib.hid (hO2.next hbd)
    have hrd2 := (hO2.next hbd).rd
    have hO2' := (hO2.next ((Below.refl _ _).alloc (Nat.le_refl _) (.cells #[.string ⟨#[]⟩, .string ⟨#[49]⟩, .string ⟨#[48, 49, 50, 51]⟩, .string ⟨#[48, 49, 48, 49, 48, 49, 48, 49, 48, 49]⟩] 9))).next ((Below.refl _ (v2.alloc (.cells #[.string ⟨#[]⟩, .string ⟨#[49]⟩, .string ⟨#[48, 49, 50, 51]⟩, .string ⟨#[48, 49, 48, 49, 48, 49, 48, 49, 48, 49]⟩] 9))).drew)
    have hrd2' := hO2'.rd
    have HO2' := Lib.hid hO2'
    have hbl2 := hO2.rd.lt
    have HL : Hid (Buf (v2.alloc (.cells #[.string ⟨#[]⟩, .string ⟨#[49]⟩, .string ⟨#[48, 49, 50, 51]⟩, .string ⟨#[48, 49, 48, 49, 48, 49, 48, 49, 48, 49]⟩] 9)) v2.heap.size 9 (scells [⟨#[]⟩, ⟨#[49]⟩, ⟨#[48, 49, 50, 51]⟩, ⟨#[48, 49, 48, 49, 48, 49, 48, 49, 48, 49]⟩])) := Buf.new v2 _ _ _ (fun j u hu => by simpa [scells] using hu) 0 0 (.inl (Nat.le_refl _))
    clear hO2 hO2'
    go_wp2_with fail
    go_region_law (first | (go_simp; go_at_call 24; refine (spec_pick g (p1 + 1) 3 _ ?_ (by omega) (by omega) (by omega)).mono ?_; (with_reducible exact hrd2); rintro e v3 ⟨j, rfl, hj, hr3, hg3⟩; have hj3 : (j : Int) < 3 := (by omega); have HO3 := Lib.hid (HO2.out.away hgl hg3 hr3); have hgl3 := hr3.lt; have hra3 := hr3.alloc (.cells #[.string ⟨#[]⟩, .string ⟨#[49]⟩, .string ⟨#[48, 49, 50, 51]⟩, .string ⟨#[48, 49, 48, 49, 48, 49, 48, 49, 48, 49]⟩] 9); have c3 : v3.cell? ⟨v1.heap.size, 0, none⟩ = some (.slice (some ⟨b1, 0, none⟩) 3 c1) := HO3.out.box.cell (j := 0) rfl; have c3' : (v3.alloc (.cells #[.string ⟨#[]⟩, .string ⟨#[49]⟩, .string ⟨#[48, 49, 50, 51]⟩, .string ⟨#[48, 49, 48, 49, 48, 49, 48, 49, 48, 49]⟩] 9)).cell? ⟨v1.heap.size, 0, none⟩ = some (.slice (some ⟨b1, 0, none⟩) 3 c1) := (HO3.out.box.alloc _).cell (j := 0) rfl) | (go_simp; go_at_call 24; refine (spec_pick g (p1 + 1) 3 _ ?_ (by omega) (by omega) (by omega)).mono ?_; exact hrd2'; rintro e v3 ⟨j, rfl, hj, hr3, hg3⟩; have hj3 : (j : Int) < 3 := (by omega); have HO3 := Lib.hid (HO2'.out.away hgl hg3 hr3); have HL3 := Lib.hid (HL.out.drew.grown hg3 (by intro e; injection e with e; omega)); have c3 : v3.cell? ⟨v1.heap.size, 0, none⟩ = some (.slice (some ⟨b1, 0, none⟩) 3 c1) := HO3.out.box.cell (j := 0) rfl) | (go_simp; go_at_call_of 25 (v2.heap.size); refine (spec_of g (p1 + 1 + 1) 4 4 _ [⟨#[]⟩, ⟨#[49]⟩, ⟨#[48, 49, 50, 51]⟩, ⟨#[48, 49, 48, 49, 48, 49, 48, 49, 48, 49]⟩] _ hr3 (by omega) (by omega) (by omega) ⟨v2.heap.size, 0, none⟩ rfl rfl (by show v2.heap.size ≠ g; omega) rfl (fun j z hz => by rw [Nat.zero_add]; exact HL3.out.cell (scells_at hz))).mono ?_; rintro e v4 ⟨z, rfl, hz, hr4, hg4⟩; have HO4 := Lib.hid (HO3.out.away hgl hg4 hr4); have c4 : v4.cell? ⟨v1.heap.size, 0, none⟩ = some (.slice (some ⟨b1, 0, none⟩) 3 c1) := HO4.out.box.cell (j := 0) rfl; have e4 := row_some HO4.out.ra (j := j) (by omega); obtain ⟨u4, e4⟩ := e4; have f4 := HO4.out.ra.frozenAt j) | (go_simp; go_at_call_of 25 (v3.heap.size); refine (spec_of g (p1 + 1 + 1) 4 4 _ [⟨#[]⟩, ⟨#[49]⟩, ⟨#[48, 49, 50, 51]⟩, ⟨#[48, 49, 48, 49, 48, 49, 48, 49, 48, 49]⟩] _ hra3 (by omega) (by omega) (by omega) ⟨v3.heap.size, 0, none⟩ rfl rfl (by show v3.heap.size ≠ g; omega) rfl (fun j z hz => cells_lit v3 [.string ⟨#[]⟩, .string ⟨#[49]⟩, .string ⟨#[48, 49, 50, 51]⟩, .string ⟨#[48, 49, 48, 49, 48, 49, 48, 49, 48, 49]⟩] 9 j _ (by have := congrArg (Option.map Value.string) hz; simpa [← List.getElem?_map] using this))).mono ?_; rintro e v4 ⟨z, rfl, hz, hr4, hg4⟩; have HO4 := Lib.hid ((HO3.out.next ((Below.refl _ _).alloc (Nat.le_refl _) _)).away hgl hg4 hr4); have c4 : v4.cell? ⟨v1.heap.size, 0, none⟩ = some (.slice (some ⟨b1, 0, none⟩) 3 c1) := HO4.out.box.cell (j := 0) rfl; have e4 := row_some HO4.out.ra (j := j) (by omega); obtain ⟨u4, e4⟩ := e4; have f4 := HO4.out.ra.frozenAt j))
    all_goals
      have hz4 : z.size ≤ 100 := by
        simp at hz
        rcases hz with rfl | rfl | rfl | rfl <;> decide
      have hO := HO4.out.setA (j := j) hgl hz4
      clear c0 c0' c3 c4 e4 f4 HO2 HO2' HO3 HO4 HL hr3 hg3 hr4 hg4 hrd2 hrd2' hz
      generalize v4.setCell ⟨b1, j, none⟩ (.string z) = v5 at hO ⊢
      have q0 := hO.box.cell (j := 0) rfl
      have q1 := hO.box.cell (j := 1) rfl
      have q2 := hO.box.cell (j := 2) rfl
      have r0 := hO.res.cell (j := 0) rfl
      have r1 := hO.res.cell (j := 1) rfl
      have r2 := hO.res.cell (j := 2) rfl
      have s0 := hO.res.free (j := 0) (by simp)
      have s1 := hO.res.free (j := 1) (by simp)
      have s2 := hO.res.free (j := 2) (by simp)
      have HO := Lib.hid hO
      clear hO
      go_wp2_with fail
      clear q0 q1 q2 r0 r1 r2 s0 s1 s2
      have p0 := (opn_res HO.out).cell (j := 0) rfl
      have p1 := (opn_res HO.out).cell (j := 1) rfl
      have p2 := (opn_res HO.out).cell (j := 2) rfl
      exact bodyPost_ret (v := .agg #[.slice (some ⟨b1, 0, none⟩) 3 c1, .slice (some ⟨b2, 0, none⟩) 3 c2, .string mo]) (by simp [results, Tryd.results16, go_sem, p0, p1, p2]) rfl (opn_fin HO.out hgl (by omega) (by omega) (by omega))
  · have b0 : ((m : Int) == 0) = false := by rw [beq_eq_false_iff_ne]; omega
    by_cases h1 : m = 1
    · subst h1
      clear h0 b0
      have d0 : v2.cell? ⟨v1.heap.size, 1, none⟩ = some (.slice (some ⟨b2, 0, none⟩) 3 c2) := hO2.box.cell (j := 1) rfl
      have hbl := hO2.box.lt
      have HO2 := Lib.hid hO2
      clear hO2
      go_wp2_with (at_builtin; refine wpList_append_str2 v2 rfl _ _ rfl (w.heap.size + 1) _ 3 _ ⟨#[48, 49]⟩ HO2.out.rb rfl rfl (by omega) (Nat.le_trans HO2.out.lt (Nat.le_of_lt hbl)) ?_; intro v' w3 hown' hgr hat; obtain ⟨g6, cap6, rfl, hg6, hl6⟩ := hown'.form (by omega); have hbx := ((HO2.out.box.alloc _).grown hgr (fun e => HO2.out.gb e.symm)); have d3 : w3.cell? ⟨v1.heap.size, 1, none⟩ = some (.slice (some ⟨b2, 0, none⟩) 3 c2) := hbx.cell (j := 1) rfl; have f3 := hbx.free (j := 1) (by simp); have hO : Opn w (w3.setCell ⟨v1.heap.size, 1, none⟩ (.slice (some ⟨g6, 0, none⟩) 4 cap6)) g v1.heap.size (p1 + 1) (.slice (some ⟨b1, 0, none⟩) 3 c1) (.slice (some ⟨g6, 0, none⟩) 4 cap6) mo chi (psi ++ [⟨#[48, 49]⟩]) 3 4 := HO2.out.appB hgl hbl (by decide) hown' hgr (hat.imp Eq.symm Option.some.inj); clear hown' hgr hat hbx; have q0 := hO.box.cell (j := 0) rfl; have q1 := hO.box.cell (j := 1) rfl; have q2 := hO.box.cell (j := 2) rfl; have r0 := hO.res.cell (j := 0) rfl; have r1 := hO.res.cell (j := 1) rfl; have r2 := hO.res.cell (j := 2) rfl; have s0 := hO.res.free (j := 0) (by simp); have s1 := hO.res.free (j := 1) (by simp); have s2 := hO.res.free (j := 2) (by simp); have HO := Lib.hid hO; clear hO)
      clear q0 q1 q2 r0 r1 r2 s0 s1 s2
      have p0 := (opn_res HO.out).cell (j := 0) rfl
      have p1 := (opn_res HO.out).cell (j := 1) rfl
      have p2 := (opn_res HO.out).cell (j := 2) rfl
      exact bodyPost_ret (v := .agg #[.slice (some ⟨b1, 0, none⟩) 3 c1, .slice (some ⟨g6, 0, none⟩) 4 cap6, .string mo]) (by simp [results, Tryd.results16, go_sem, p0, p1, p2]) rfl (opn_fin HO.out hgl (by omega) (by omega) (by omega))
    · have b1' : ((m : Int) == 1) = false := by rw [beq_eq_false_iff_ne]; omega
      by_cases h2 : m = 2
      · subst h2
        clear h0 b0 h1 b1'
        have hgl2 := hO2.rd.lt
        have HO2 := Lib.hid hO2
        have hra2 := hO2.rd.alloc (.cells #[.string ⟨#[]⟩, .string ⟨#[48]⟩, .string ⟨#[48, 49, 32]⟩] 9)
        clear hO2
        go_wp2_with fail
        refine (spec_of g (p1 + 1) 3 3 _ [⟨#[]⟩, ⟨#[48]⟩, ⟨#[48, 49, 32]⟩] _ hra2 (by omega) (by omega) (by omega) ⟨v2.heap.size, 0, none⟩ rfl rfl (by show v2.heap.size ≠ g; omega) rfl (fun j z hz => cells_lit v2 [.string ⟨#[]⟩, .string ⟨#[48]⟩, .string ⟨#[48, 49, 32]⟩] 9 j _ (by have := congrArg (Option.map Value.string) hz; simpa [← List.getElem?_map] using this))).mono ?_
        rintro e v3 ⟨z, rfl, hz, hr3, hg3⟩
        have hz3 : z.size ≤ 100 := by
          simp at hz
          rcases hz with rfl | rfl | rfl <;> decide
        have hO3 := (HO2.out.next ((Below.refl _ _).alloc (Nat.le_refl _) _)).away hgl hg3 hr3
        have d3 : v3.cell? ⟨v1.heap.size, 2, none⟩ = some (.string mo) := hO3.box.cell (j := 2) rfl
        have f3 := hO3.box.free (j := 2) (by simp)
        have hO := hO3.setMo hgl hz3
        clear hO3 hz hr3 hg3 HO2 hra2
        have q0 := hO.box.cell (j := 0) rfl
        have q1 := hO.box.cell (j := 1) rfl
        have q2 := hO.box.cell (j := 2) rfl
        have r0 := hO.res.cell (j := 0) rfl
        have r1 := hO.res.cell (j := 1) rfl
        have r2 := hO.res.cell (j := 2) rfl
        have s0 := hO.res.free (j := 0) (by simp)
        have s1 := hO.res.free (j := 1) (by simp)
        have s2 := hO.res.free (j := 2) (by simp)
        have HO := Lib.hid hO
        clear hO
        go_wp2_with fail
        clear q0 q1 q2 r0 r1 r2 s0 s1 s2
        have p0 := (opn_res HO.out).cell (j := 0) rfl
        have p1 := (opn_res HO.out).cell (j := 1) rfl
        have p2 := (opn_res HO.out).cell (j := 2) rfl
        exact bodyPost_ret (v := .agg #[.slice (some ⟨b1, 0, none⟩) 3 c1, .slice (some ⟨b2, 0, none⟩) 3 c2, .string z]) (by simp [results, Tryd.results16, go_sem, p0, p1, p2]) rfl (opn_fin HO.out hgl (by omega) (by omega) (by omega))
      · have b2' : ((m : Int) == 2) = false := by rw [beq_eq_false_iff_ne]; omega
        clear h0 h1 h2
        have hO := hO2
        clear hO2
        have q0 := hO.box.cell (j := 0) rfl
        have q1 := hO.box.cell (j := 1) rfl
        have q2 := hO.box.cell (j := 2) rfl
        have r0 := hO.res.cell (j := 0) rfl
        have r1 := hO.res.cell (j := 1) rfl
        have r2 := hO.res.cell (j := 2) rfl
        have s0 := hO.res.free (j := 0) (by simp)
        have s1 := hO.res.free (j := 1) (by simp)
        have s2 := hO.res.free (j := 2) (by simp)
        have HO := Lib.hid hO
        clear hO
        go_wp2_with fail
        clear q0 q1 q2 r0 r1 r2 s0 s1 s2
        have p0 := (opn_res HO.out).cell (j := 0) rfl
        have p1 := (opn_res HO.out).cell (j := 1) rfl
        have p2 := (opn_res HO.out).cell (j := 2) rfl
        exact bodyPost_ret (v := .agg #[.slice (some ⟨b1, 0, none⟩) 3 c1, .slice (some ⟨b2, 0, none⟩) 3 c2, .string mo]) (by simp [results, Tryd.results16, go_sem, p0, p1, p2]) rfl (opn_fin HO.out hgl (by omega) (by omega) (by omega))
end Go.Proofs.YtchjhngfkngljaaDoor
