/- Slices of strings: reading, making, comparing, marking. No condition. -/
import Derived.Test.YtchjhngfkngljaaDoorConv
import Derived.Laws.MakeOwn
import Derived.BigQuiet
import Derived.Deep.QuietTactic
import Derived.Deep.AppendLies
set_option linter.unusedVariables false
namespace Go.Proofs.YtchjhngfkngljaaDoor
open Go.RowKit

/-- Strings as cells. -/
def scells (l : List ByteArray) : List Value := l.map Value.string
theorem scells_at {l : List ByteArray} {k : Nat} {c : ByteArray} (h : l[k]? = some c) : (scells l)[k]? = some (.string c) := by simp [scells, h]
theorem scells_len (l : List ByteArray) : (scells l).length = l.length := by simp [scells]
theorem scells_set (l : List ByteArray) (k : Nat) (c : ByteArray) : (scells l).set k (.string c) = scells (l.set k c) := by simp [scells, List.map_set]
/-- A slice reads as strings. -/
def Strs (w : World) (A : Option Addr) (zs : List ByteArray) : Prop :=
  zs = [] ∨ ∃ b off, A = some ⟨b, off, none⟩ ∧ b < w.heap.size ∧ ∀ (j : Nat) (z : ByteArray), zs[j]? = some z → w.cell? ⟨b, off + j, none⟩ = some (.string z)
theorem Strs.next {w w' : World} {A : Option Addr} {zs : List ByteArray} (h : Strs w A zs) (hb : Below w.heap.size w w') : Strs w' A zs := by
  rcases h with h | ⟨b, off, hA, hlt, hc⟩
  · exact .inl h
  · exact .inr ⟨b, off, hA, Nat.lt_of_lt_of_le hlt hb.size, fun j z hz => by rw [hb.cell (p := ⟨b, off + j, none⟩) hlt]; exact hc j z hz⟩
theorem Strs.at_ {w : World} {A : Option Addr} {zs : List ByteArray} (h : Strs w A zs) {k : Nat} {z : ByteArray} (hk : zs[k]? = some z) :
    ∃ b off, A = some ⟨b, off, none⟩ ∧ b < w.heap.size ∧ w.cell? ⟨b, off + k, none⟩ = some (.string z) := by
  rcases h with h | ⟨b, off, hA, hlt, hc⟩
  · subst h; simp at hk
  · exact ⟨b, off, hA, hlt, hc k z hk⟩
theorem Strs.of_buf {w : World} {g : Nat} {t : TypeId} {zs : List ByteArray} (h : Buf w g t (scells zs)) : Strs w (some ⟨g, 0, none⟩) zs :=
  .inr ⟨g, 0, rfl, h.lt, fun j z hz => by rw [Nat.zero_add]; exact h.cell (scells_at hz)⟩
theorem sget {α : Type} (l : List α) (k : Nat) (h : k < l.length) : ∃ x, l[k]? = some x := ⟨_, List.getElem?_eq_getElem h⟩
theorem Buf.sput {w : World} {g : Nat} {t : TypeId} {new old : List ByteArray} {k : Nat} {v : ByteArray} (h : Buf w g t (scells (mix new old k))) (hl : new.length = old.length)
    (hx : new[k]? = some v) : Buf (w.setCell ⟨g, k, none⟩ (.string v)) g t (scells (mix new old (k + 1))) := by
  have := h.set k (.string v)
  rwa [scells_set, mix_set new old k v hl hx] at this
theorem mix_endS {α : Type} {new old : List α} {n : Nat} (h : new.length = old.length) (hn : new.length = n) : mix new old n = new := by
  have := mix_all new old (Nat.le_of_eq h.symm)
  rwa [hn] at this

theorem info_str : (Tryd.prog.info? 9).map (fun i => (i.zero, i.size, i.bytes)) = some (some (.string ByteArray.empty), 1, 16) := by kernel_rfl
theorem madeS_at (z : Value) (n j : Nat) (u : Value) (h : (List.replicate n z)[j]? = some u) : (madeCells #[z] n)[j]? = some u := by
  rw [← Array.getElem?_toList, toList_madeCells_one]; exact h
theorem make_strs (n : Nat) (hn : n ≤ 4194304) (w : World) : ∃ w1, (Instr.makeSlice 23 (.int .i64 (n : Int)) (.int .i64 (n : Int))).run Tryd.prog w = .ok (.slice (some ⟨w.heap.size, 0, none⟩) n n) w1 ∧
    Buf w1 w.heap.size 9 (scells (List.replicate n ByteArray.empty)) ∧ Below w.heap.size w w1 ∧ w.heap.size < w1.heap.size := by
  obtain ⟨i0, hi, hz0, hz1, hz2⟩ := info_parts info_str
  have hr := run_make (P := Tryd.prog) w 23 9 i0 _ Tryd.underlying23 hi hz0 .i64 .i64 n n (by omega) (by omega) (by rw [hz2]; omega) (by omega)
  rw [hz1] at hr
  simp only [Int.toNat_natCast, Nat.mul_one] at hr
  refine ⟨_, hr, Buf.new w _ _ _ (fun j u hu => ?_) 0 0 (.inl (Nat.le_refl _)), (Below.refl _ _).alloc (Nat.le_refl _) _, by simp⟩
  refine madeS_at _ _ _ _ ?_
  simpa [scells] using hu

/-- A slice of strings that a call made, in blocks from lo up to hi. -/
def SOwn (w : World) (lo hi : Nat) (A : Option Addr) (zs : List ByteArray) : Prop :=
  zs = [] ∨ ∃ g, A = some ⟨g, 0, none⟩ ∧ lo ≤ g ∧ g < hi ∧ Buf w g 9 (scells zs)
theorem SOwn.of_buf {w : World} {g : Nat} {zs : List ByteArray} (h : Buf w g 9 (scells zs)) : SOwn w g (g + 1) (some ⟨g, 0, none⟩) zs := .inr ⟨g, rfl, Nat.le_refl _, Nat.lt_succ_self _, h⟩
theorem SOwn.strs {w : World} {lo hi : Nat} {A : Option Addr} {zs : List ByteArray} (h : SOwn w lo hi A zs) : Strs w A zs := by
  rcases h with h | ⟨g, rfl, _, _, h⟩
  · exact .inl h
  · exact Strs.of_buf h
theorem SOwn.next {w w' : World} {lo hi : Nat} {A : Option Addr} {zs : List ByteArray} (h : SOwn w lo hi A zs) (hb : Below w.heap.size w w') : SOwn w' lo hi A zs := by
  rcases h with h | ⟨g, hA, h1, h2, h⟩
  · exact .inl h
  · exact .inr ⟨g, hA, h1, h2, h.next hb⟩
theorem SOwn.wider {w : World} {lo hi lo' hi' : Nat} {A : Option Addr} {zs : List ByteArray} (h : SOwn w lo hi A zs) (h1 : lo' ≤ lo) (h2 : hi ≤ hi') : SOwn w lo' hi' A zs := by
  rcases h with h | ⟨g, hA, h3, h4, h⟩
  · exact .inl h
  · exact .inr ⟨g, hA, by omega, by omega, h⟩
/-- Only blocks from lo up to hi have changed; others may be new. -/
structure SKept (w w' : World) (lo hi : Nat) : Prop where
  os : w'.os = w.os
  tape : w'.tape = w.tape
  output : w'.output = w.output
  size : w.heap.size ≤ w'.heap.size
  block : ∀ i, i < w.heap.size → (i < lo ∨ hi ≤ i) → w'.heap[i]? = w.heap[i]?
theorem SKept.refl (w : World) (lo hi : Nat) : SKept w w lo hi := ⟨rfl, rfl, rfl, Nat.le_refl _, fun _ _ _ => rfl⟩
theorem SKept.then_ {w w1 w2 : World} {lo hi : Nat} (h : SKept w w1 lo hi) (hb : Below w1.heap.size w1 w2) : SKept w w2 lo hi :=
  ⟨hb.os.trans h.os, hb.tape.trans h.tape, hb.output.trans h.output, Nat.le_trans h.size hb.size, fun i hi' hd => (hb.block i (Nat.lt_of_lt_of_le hi' h.size)).trans (h.block i hi' hd)⟩
theorem SOwn.kept {w w' : World} {lo hi lo' hi' : Nat} {A : Option Addr} {zs : List ByteArray} (h : SOwn w lo hi A zs) (k : SKept w w' lo' hi') (hd : hi ≤ lo' ∨ hi' ≤ lo) : SOwn w' lo hi A zs := by
  rcases h with h | ⟨g, hA, h1, h2, h⟩
  · exact .inl h
  · exact .inr ⟨g, hA, h1, h2, h.same (k.block g h.lt (by omega))⟩
theorem SKept.below {w w' : World} {lo hi B : Nat} (k : SKept w w' lo hi) (h1 : B ≤ lo) (h2 : B ≤ w.heap.size) : Below B w w' := ⟨k.os, k.tape, k.output, k.size, fun i hi => k.block i (by omega) (.inl (by omega))⟩

set_option maxHeartbeats 400000 in
theorem laws_eqStringS (A B : Option Addr) (n m c d : Nat) (xs ys : List ByteArray) (w : World) (h1 : Strs w A xs) (h2 : Strs w B ys) (hn : xs.length = n) (hm : ys.length = m) (hb : n ≤ 9223372036854775807) (heq : xs = ys) :
    Calls Tryd.prog 27 #[.slice A n c, .slice B m d] w fun e w' => e = .returned (.bool true) ∧ Below w.heap.size w w' := by
  subst heq
  obtain rfl : n = m := by omega
  have Hn := Lib.hid hn
  clear hn hm
  go_enter Tryd.func27, Tryd.ntmps27
  go_wp2
  go_loopw [5] (fun i wr => ∃ k : Nat, k ≤ n ∧ i = .int .i64 k ∧ Below w.heap.size w wr) (fun i _ => n - (intOf i).toNat)
  case atStart => exact ⟨0, Nat.zero_le _, rfl, Below.refl _ _⟩
  case round =>
    obtain ⟨k, hk, rfl, hbe⟩ := hrel
    by_cases hlt : k < n
    · obtain ⟨z, hz⟩ := sget xs k (by rw [Hn.out]; exact hlt)
      obtain ⟨b, off, rfl, hbl, hc⟩ := (h1.next hbe).at_ hz
      obtain ⟨b2, off2, rfl, hbl2, hc2⟩ := (h2.next hbe).at_ hz
      have H1 := Lib.hid h1
      have H2 := Lib.hid h2
      clear hz h1 h2
      go_wp2_with fail
      go_quiet (fail)
      go_wp2
      go_roundw
      case rel => exact ⟨k + 1, by omega, by go_num, bel_drewN hbe _⟩
      case measure => simp [intOf]; omega
    · go_wp2
      go_ret
      exact ⟨rfl, hbe⟩
end Go.Proofs.YtchjhngfkngljaaDoor
