/- The text of a machine is parsed: what the plain function says, and steps of a region. No condition. -/
import Derived.Test.YtchjhngfkngljaaDoorFmt
import Derived.Test.YtchjhngfkngljaaDoorCut
import Derived.Test.YtchjhngfkngljaaDoorSz
set_option linter.unusedVariables false
namespace Go.Proofs.YtchjhngfkngljaaDoor
open Go.RowKit

def wN (ps : List (List Nat)) : Bool := decide (ps.length = 3) && ps.all wheel
theorem wN_map (ss : List ByteArray) : wN (ss.map nb) = wheels3 ss := by simp [wN, wheels3, List.all_map, Function.comp_def]
/-- The text is that of a machine. -/
def ptOk (l : List Nat) : Bool := match cutK 47 l with
  | [a, b, m] => wN (cutK 32 a) && wN (cutK 32 b) && wheel m
  | _ => false
theorem pt_short {l : List Nat} (h : (cutK 47 l).length ≠ 3) : ptOk l = false := by
  unfold ptOk
  split
  · rename_i a b m e
    rw [e] at h
    exact absurd rfl h
  · rfl
theorem pt_valid {l : List Nat} {p0 p1 p2 : ByteArray} {chi psi : List ByteArray} (h : [p0, p1, p2].map nb = cutK 47 l) (h1 : chi.map nb = cutK 32 (nb p0)) (h2 : psi.map nb = cutK 32 (nb p1)) : ptOk l = tvld chi psi p2 := by
  unfold ptOk
  rw [← h]
  show (wN (cutK 32 (nb p0)) && wN (cutK 32 (nb p1)) && wheel (nb p2)) = _
  rw [← h1, ← h2, wN_map, wN_map, tvld]
theorem map_nb_inj : ∀ {xs ys : List ByteArray}, xs.map nb = ys.map nb → xs = ys
  | [], [], _ => rfl
  | [], _ :: _, h => by cases h
  | _ :: _, [], h => by cases h
  | x :: xs, y :: ys, h => by
    injection h with h1 h2
    rw [nb_inj h1, map_nb_inj h2]
/-- What is parsed. -/
def PtV (l : List Nat) (chi psi : List ByteArray) (mo : ByteArray) : Prop :=
  (ptOk l = true ∧ ∃ a b, cutK 47 l = [a, b, nb mo] ∧ chi.map nb = cutK 32 a ∧ psi.map nb = cutK 32 b) ∨ (ptOk l = false ∧ chi = [] ∧ psi = [] ∧ mo = ByteArray.empty)
theorem PtV.same {l : List Nat} {chi psi chi' psi' : List ByteArray} {mo mo' : ByteArray} (h : PtV l chi psi mo) (h' : PtV l chi' psi' mo') : chi = chi' ∧ psi = psi' ∧ mo = mo' := by
  rcases h with ⟨h0, a, b, h1, h2, h3⟩ | ⟨h0, rfl, rfl, rfl⟩
  · rcases h' with ⟨_, a', b', h1', h2', h3'⟩ | ⟨h0', _⟩
    · rw [h1] at h1'
      injection h1' with e1 h1'
      injection h1' with e2 h1'
      injection h1' with e3 _
      exact ⟨map_nb_inj (by rw [h2, h2', e1]), map_nb_inj (by rw [h3, h3', e2]), nb_inj e3⟩
    · rw [h0] at h0'; cases h0'
  · rcases h' with ⟨h0', _⟩ | ⟨_, rfl, rfl, rfl⟩
    · rw [h0] at h0'; cases h0'
    · exact ⟨rfl, rfl, rfl⟩
theorem PtV.valid {l : List Nat} {chi psi : List ByteArray} {mo : ByteArray} (h : PtV l chi psi mo) (hk : ptOk l = true) : tvld chi psi mo = true := by
  rcases h with ⟨h0, a, b, h1, h2, h3⟩ | ⟨h0, _⟩
  · unfold ptOk at hk
    rw [h1] at hk
    show (wheels3 chi && wheels3 psi && wheel (nb mo)) = true
    rw [← wN_map, ← wN_map, h2, h3]
    exact hk
  · rw [hk] at h0; cases h0
theorem wheels3_three {ss : List ByteArray} (h : wheels3 ss = true) : ss.length = 3 := by
  obtain ⟨x, y, z, rfl, _⟩ := wheels3_yes h
  rfl
theorem PtV.len {l : List Nat} {chi psi : List ByteArray} {mo : ByteArray} (h : PtV l chi psi mo) : chi.length ≤ 3 ∧ psi.length ≤ 3 := by
  cases hk : ptOk l
  · rcases h with ⟨h0, _⟩ | ⟨_, rfl, rfl, rfl⟩
    · rw [hk] at h0; cases h0
    · exact ⟨Nat.zero_le _, Nat.zero_le _⟩
  · obtain ⟨h1, h2, _⟩ := tvld_yes (h.valid hk)
    exact ⟨Nat.le_of_eq (wheels3_three h1), Nat.le_of_eq (wheels3_three h2)⟩
theorem wheels3_small {ss : List ByteArray} (h : wheels3 ss = true) : smallS ss := by
  obtain ⟨x, y, z, rfl, hx, hy, hz⟩ := wheels3_yes h
  have lx := (wheel_len hx).2
  have ly := (wheel_len hy).2
  have lz := (wheel_len hz).2
  rw [nb_length] at lx ly lz
  intro s hs
  unfold maxLen
  simp only [List.mem_cons, List.not_mem_nil, or_false] at hs
  rcases hs with rfl | rfl | rfl <;> omega
theorem PtV.small {l : List Nat} {chi psi : List ByteArray} {mo : ByteArray} (h : PtV l chi psi mo) : smallS chi ∧ smallS psi ∧ mo.size ≤ maxLen := by
  cases hk : ptOk l
  · rcases h with ⟨h0, _⟩ | ⟨_, rfl, rfl, rfl⟩
    · rw [hk] at h0; cases h0
    · exact ⟨fun s hs => by (cases hs), fun s hs => by (cases hs), by decide⟩
  · obtain ⟨h1, h2, h3⟩ := tvld_yes (h.valid hk)
    have := (wheel_len h3).2
    rw [nb_length] at this
    exact ⟨wheels3_small h1, wheels3_small h2, by unfold maxLen; omega⟩
/-- Join behind cut. -/
theorem ft_pt {l : List Nat} {p0 p1 p2 : ByteArray} {chi psi : List ByteArray} (h : [p0, p1, p2].map nb = cutK 47 l) (h1 : chi.map nb = cutK 32 (nb p0)) (h2 : psi.map nb = cutK 32 (nb p1)) (hv : tvld chi psi p2 = true) : ftL chi psi p2 = l := by
  obtain ⟨k1, k2, _⟩ := tvld_yes hv
  obtain ⟨x, y, z, rfl, _⟩ := wheels3_yes k1
  obtain ⟨x', y', z', rfl, _⟩ := wheels3_yes k2
  have e1 : j3 [x, y, z] = nb p0 := by
    rw [← join_cut 32 (nb p0), ← h1]
    rfl
  have e2 : j3 [x', y', z'] = nb p1 := by
    rw [← join_cut 32 (nb p1), ← h2]
    rfl
  rw [ftL, hv, if_pos rfl, e1, e2, ← join_cut 47 l, ← h]
  rfl
theorem ft_no {l : List Nat} {p0 p1 p2 : ByteArray} {chi psi : List ByteArray} (h : [p0, p1, p2].map nb = cutK 47 l) (hv : tvld chi psi p2 = false) : ftL chi psi p2 ≠ l := by
  rw [ftL, hv, if_neg (by simp)]
  intro e
  subst e
  have := congrArg List.length h
  simp [cutK] at this
theorem three_of {zs : List ByteArray} (h : zs.length = 3) : ∃ p0 p1 p2, zs = [p0, p1, p2] := by
  match zs, h with
  | [a, b, c], _ => exact ⟨a, b, c, rfl⟩
theorem PtV.yes {l : List Nat} {p0 p1 p2 : ByteArray} {chi psi : List ByteArray} (h : [p0, p1, p2].map nb = cutK 47 l) (h1 : chi.map nb = cutK 32 (nb p0)) (h2 : psi.map nb = cutK 32 (nb p1)) (hv : tvld chi psi p2 = true) : PtV l chi psi p2 :=
  .inl ⟨(pt_valid h h1 h2).trans hv, nb p0, nb p1, h.symm, h1, h2⟩
theorem PtV.no {l : List Nat} (h : ptOk l = false) : PtV l [] [] ByteArray.empty := .inr ⟨h, rfl, rfl, rfl⟩
theorem piece_le {c : Nat} {s : ByteArray} {zs : List ByteArray} (h : zs.map nb = cutK c (nb s)) : ∀ z ∈ zs, z.size ≤ s.size := by
  have key : ∀ l : List Nat, ∀ p ∈ cutK c l, p.length ≤ l.length := by
    intro l
    induction l with
    | nil => intro p hp; simp [cutK] at hp; simp [hp]
    | cons x l ih =>
      intro p hp
      rw [cutK] at hp
      split at hp
      · rcases List.mem_cons.1 hp with rfl | hp
        · exact Nat.zero_le _
        · have := ih p hp; simp; omega
      · cases hc : cutK c l with
        | nil => exact absurd hc (cutK_ne _ _)
        | cons q r =>
          rw [hc] at hp ih
          rcases List.mem_cons.1 hp with rfl | hp
          · have := ih q (by simp); simp; omega
          · have := ih p (by simp [hp]); simp; omega
  intro z hz
  have := key (nb s) (nb z) (by rw [← h]; exact List.mem_map_of_mem hz)
  rwa [nb_length, nb_length] at this

/-- A call returns the parsed machine, in rows of its own, and whether there is one. -/
def PtP (w : World) (l : List Nat) (e : Ending) (w' : World) : Prop :=
  ∃ A c B d mid chi psi mo, e = .returned (.tuple #[.agg #[.slice A chi.length c, .slice B psi.length d, .string mo], .bool (ptOk l)]) ∧ chi.length ≤ c ∧ psi.length ≤ d ∧ SOwn w' w.heap.size mid A chi ∧ SOwn w' mid w'.heap.size B psi ∧ w.heap.size ≤ mid ∧ mid ≤ w'.heap.size ∧ PtV l chi psi mo ∧ Below w.heap.size w w'
theorem exec_idx0 (ρ : Operand → Value) (o : Oper) (x : Operand) (w : World) (b off n c : Nat) (ho : o.op = .indexAddr 23 x (.const (.int .i64 0))) (hx : ρ x = .slice (some ⟨b, off, none⟩) n c) (hk : 0 < n) (hy : ρ (.const (.int .i64 0)) = .int .i64 0) :
    (execOp ρ o).run Tryd.prog w = .ok (.value (.pointer (some ⟨b, off, none⟩))) w := by
  have hk2 : (0 : Int) < (n : Int) := by omega
  unfold execOp
  rw [ho]
  go_simp
theorem exec_idx1 (ρ : Operand → Value) (o : Oper) (x : Operand) (w : World) (b off n c : Nat) (ho : o.op = .indexAddr 23 x (.const (.int .i64 1))) (hx : ρ x = .slice (some ⟨b, off, none⟩) n c) (hk : 1 < n) (hy : ρ (.const (.int .i64 1)) = .int .i64 1) :
    (execOp ρ o).run Tryd.prog w = .ok (.value (.pointer (some ⟨b, off + 1, none⟩))) w := by
  have hk2 : (1 : Int) < (n : Int) := by omega
  unfold execOp
  rw [ho]
  go_simp
theorem exec_idx2 (ρ : Operand → Value) (o : Oper) (x : Operand) (w : World) (b off n c : Nat) (ho : o.op = .indexAddr 23 x (.const (.int .i64 2))) (hx : ρ x = .slice (some ⟨b, off, none⟩) n c) (hk : 2 < n) (hy : ρ (.const (.int .i64 2)) = .int .i64 2) :
    (execOp ρ o).run Tryd.prog w = .ok (.value (.pointer (some ⟨b, off + 2, none⟩))) w := by
  have hk2 : (2 : Int) < (n : Int) := by omega
  unfold execOp
  rw [ho]
  go_simp
theorem wpAnyH_one {ops : Array Oper} {Q : Exit → Act → World → Prop} {md : Region.Mode} {S : World → Prop} {n : Nat} {fuel : Nat} {listed : Array Bool} {a : Act} {w : World}
    (hr : Region.ready md ops listed = [n]) (h : wpOp Tryd.prog ops Q n (fun a' w' => S w' ∧ wpAnyH Tryd.prog md ops Q S fuel (listed.setIfInBounds n true) a' w') a w) : wpAnyH Tryd.prog md ops Q S (fuel + 1) listed a w := by
  refine wpAnyH_all hr (by simp) ?_
  intro k hk
  obtain rfl : k = n := by simpa using hk
  exact h
theorem wpAnyH_or {ops : Array Oper} {Q : Exit → Act → World → Prop} {md : Region.Mode} {S : World → Prop} {n m : Nat} {fuel : Nat} {listed : Array Bool} {a : Act} {w : World}
    (hr : Region.ready md ops listed = [n, m]) (h : wpOp Tryd.prog ops Q n (fun a' w' => S w' ∧ wpAnyH Tryd.prog md ops Q S fuel (listed.setIfInBounds n true) a' w') a w)
    (h2 : wpOp Tryd.prog ops Q m (fun a' w' => S w' ∧ wpAnyH Tryd.prog md ops Q S fuel (listed.setIfInBounds m true) a' w') a w) : wpAnyH Tryd.prog md ops Q S (fuel + 1) listed a w := by
  refine wpAnyH_all hr (by simp) ?_
  intro k hk
  rcases List.mem_cons.1 hk with rfl | hk
  · exact h
  · obtain rfl : k = m := by simpa using hk
    exact h2
theorem beq_noT {a b : ByteArray} (h : a ≠ b) : (a.toList == b.toList) = false := by
  rw [beq_eq_false_iff_ne]
  intro e
  rw [ByteArray.toList_eq, ByteArray.toList_eq] at e
  exact h (nb_inj (by unfold nb; rw [e]))
/-- A machine's variable is laid. -/
theorem op_alloc {ops : Array Oper} {Q : Exit → Act → World → Prop} {n : Nat} {o : Oper} {a : Act} {w : World} {K : Act → World → Prop} (hn : ops[n]? = some o) (ho : o.op = .alloc 25) (hw : Region.wanted o (yielded ops a.tmps) = true)
    (h : ∀ w', Buf w' w.heap.size 25 zcells → w'.heap.size = w.heap.size + 1 → Below w.heap.size w w' → K (a.put o.dst (.pointer (some ⟨w.heap.size, 0, none⟩))) w') : wpOp Tryd.prog ops Q n K a w := by
  have HH := Lib.hid (h _ (zbox w) (size_alloc _ _) (belA _ _))
  clear h
  refine wpOp_want hn hw fun K' hK' => ?_
  have hK := hK' _ _ HH.out
  clear hK' HH
  unfold Oper.wp execOp
  simp only [ho]
  go_simp
  exact hK
/-- A machine is stored in a variable. -/
theorem op_store {ops : Array Oper} {Q : Exit → Act → World → Prop} {n : Nat} {o : Oper} {a : Act} {w : World} {K : Act → World → Prop} {mo : ByteArray} {A : Option Addr} {k c : Nat} {B : Option Addr} {m d : Nat} {g : Nat} {i j : Nat} (hn : ops[n]? = some o) (ho : o.op = .store 25 (.tmp i) (.tmp j)) (hd : o.dst = none) (hw : Region.wanted o (yielded ops a.tmps) = true)
    (hx : a.tmps[i]?.getD undef = .pointer (some ⟨g, 0, none⟩)) (hy : a.tmps[j]?.getD undef = .agg #[.slice A k c, .slice B m d, .string mo]) (hb : Buf w g 25 zcells)
    (h : ∀ w', Buf w' g 25 (tcells A k c B m d mo) → w'.heap.size = w.heap.size → SKept w w' g (g + 1) → K a w') : wpOp Tryd.prog ops Q n K a w := by
  have hb3 := ((hb.set 0 (.slice A k c)).set 1 (.slice B m d)).set 2 (.string mo)
  have hsk : SKept w (((w.setCell ⟨g, 0, none⟩ (.slice A k c)).setCell ⟨g, 1, none⟩ (.slice B m d)).setCell ⟨g, 2, none⟩ (.string mo)) g (g + 1) :=
    ⟨rfl, rfl, rfl, by simp [World.setCell], fun i hi hd => by
      have e : i ≠ g := by omega
      rw [Below.heap_setCell _ _ _ i e, Below.heap_setCell _ _ _ i e, Below.heap_setCell _ _ _ i e]⟩
  have HH := Lib.hid (h _ hb3 (by simp [World.setCell]) hsk)
  have c0 : w.cell? ⟨g, 0, none⟩ = some (.slice none 0 0) := hb.cell (j := 0) rfl
  have c1 : w.cell? ⟨g, 1, none⟩ = some (.slice none 0 0) := hb.cell (j := 1) rfl
  have c2 : w.cell? ⟨g, 2, none⟩ = some (.string ⟨#[]⟩) := hb.cell (j := 2) rfl
  have f0 := hb.free (j := 0) (by decide)
  have f1 := hb.free (j := 1) (by decide)
  have f2 := hb.free (j := 2) (by decide)
  clear h hb hb3 hsk
  refine wpOp_want hn hw fun K' hK' => ?_
  have hK := hK' _ _ HH.out
  clear hK' HH
  unfold Oper.wp execOp
  simp only [ho]
  go_simp
  exact hK
theorem SKept.bel {w w' : World} {g B : Nat} (k : SKept w w' g (g + 1)) (h : B ≤ g) (h2 : B ≤ w.heap.size) : Below B w w' := k.below h h2
theorem mach_own {w : World} {A B : Option Addr} {lo mid hi lo' : Nat} {chi psi : List ByteArray} {mo s p0 p1 : ByteArray} (hA : SOwn w lo mid A chi) (hB : SOwn w lo' hi B psi) (h1 : chi.map nb = cutK 32 (nb p0)) (h2 : psi.map nb = cutK 32 (nb p1)) (l0 : p0.size ≤ 1048576) (l1 : p1.size ≤ 1048576) (l2 : mo.size ≤ 1048576) (m1 : chi.length ≤ 9223372036854775807) (m2 : psi.length ≤ 9223372036854775807) :
    Mach w A chi.length B psi.length chi psi mo :=
  ⟨hA.strs, hB.strs, rfl, rfl, m1, m2, fun z hz => by have := piece_le h1 z hz; unfold maxLen; omega, fun z hz => by have := piece_le h2 z hz; unfold maxLen; omega, by unfold maxLen; omega⟩
theorem cut_len (c : Nat) : ∀ l : List Nat, (cutK c l).length ≤ l.length + 1
  | [] => Nat.le_refl _
  | x :: l => by
    have := cut_len c l
    rw [cutK]
    split
    · simp; omega
    · cases h : cutK c l with
      | nil => exact absurd h (cutK_ne _ _)
      | cons p r => rw [h] at this; simp [pre] at this ⊢; omega
theorem cut_lenB {c : Nat} {s : ByteArray} {zs : List ByteArray} (h : zs.map nb = cutK c (nb s)) (hs : s.size ≤ 1048576) : zs.length ≤ 9223372036854775807 := by
  have := cut_len c (nb s)
  rw [← h, List.length_map, nb_length] at this
  omega
/-- The machine behind the call's last store: into the result's block. -/
theorem res_fin {w v : World} {A B : Option Addr} {c d lo mid g n m : Nat} {mo : ByteArray} {chi psi : List ByteArray} (hr : Buf v g 25 zcells) (hA : SOwn v lo mid A chi) (hB : SOwn v mid v.heap.size B psi) (hlo : g < lo) (hlm : lo ≤ mid) (hmv : mid ≤ v.heap.size) (hg : w.heap.size ≤ g) (hb : Below w.heap.size w v) (va vb vc : Value)
    {v' : World} (hv : v' = ((v.setCell ⟨g, 0, none⟩ va).setCell ⟨g, 1, none⟩ vb).setCell ⟨g, 2, none⟩ vc) :
    SOwn v' w.heap.size mid A chi ∧ SOwn v' mid v'.heap.size B psi ∧ mid ≤ v'.heap.size ∧ Below w.heap.size w v' ∧ v'.cell? ⟨g, 0, none⟩ = some va ∧ v'.cell? ⟨g, 1, none⟩ = some vb ∧ v'.cell? ⟨g, 2, none⟩ = some vc := by
  subst hv
  have hb3 := ((hr.set 0 va).set 1 vb).set 2 vc
  have hsz : (((v.setCell ⟨g, 0, none⟩ va).setCell ⟨g, 1, none⟩ vb).setCell ⟨g, 2, none⟩ vc).heap.size = v.heap.size := by simp [World.setCell]
  have hsk : SKept v (((v.setCell ⟨g, 0, none⟩ va).setCell ⟨g, 1, none⟩ vb).setCell ⟨g, 2, none⟩ vc) g (g + 1) :=
    ⟨rfl, rfl, rfl, Nat.le_of_eq hsz.symm, fun i hi hd => by
      have e : i ≠ g := by omega
      rw [Below.heap_setCell _ _ _ i e, Below.heap_setCell _ _ _ i e, Below.heap_setCell _ _ _ i e]⟩
  rw [hsz]
  refine ⟨(hA.kept hsk (.inr (by omega))).wider (by omega) (Nat.le_refl _), hB.kept hsk (.inr (by omega)), hmv, ?_, hb3.cell (j := 0) rfl, hb3.cell (j := 1) rfl, hb3.cell (j := 2) rfl⟩
  exact ((hb.setCell (p := ⟨g, 0, none⟩) hg va).setCell (p := ⟨g, 1, none⟩) hg vb).setCell (p := ⟨g, 2, none⟩) hg vc
end Go.Proofs.YtchjhngfkngljaaDoor
