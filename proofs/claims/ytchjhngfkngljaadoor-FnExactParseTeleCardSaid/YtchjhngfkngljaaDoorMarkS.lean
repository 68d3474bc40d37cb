/- Marks that are written into slices of strings and found again. No condition. -/
import Derived.Test.YtchjhngfkngljaaDoorStrs
import Derived.Deep.RegionWith
set_option linter.unusedVariables false
namespace Go.Proofs.YtchjhngfkngljaaDoor
open Go.RowKit

/-- The decimal digits of k ahead of acc; f: fuel. -/
def digs : Nat → Nat → List Nat → List Nat
  | 0, _, acc => acc
  | f + 1, k, acc => if k = 0 then acc else digs f (k / 10) ((48 + k % 10) :: acc)
theorem digs_zero (f : Nat) (acc : List Nat) : digs f 0 acc = acc := by cases f <;> simp [digs]
theorem digs_lt : ∀ (f k : Nat) (acc : List Nat), (∀ x ∈ acc, x < 256) → ∀ x ∈ digs f k acc, x < 256
  | 0, _, acc, h => h
  | f + 1, k, acc, h => by
    unfold digs
    split
    · exact h
    · refine digs_lt f (k / 10) _ fun x hx => ?_
      rcases List.mem_cons.1 hx with rfl | hx
      · omega
      · exact h x hx
/-- The mark number k. -/
def mtL (k : Nat) : List Nat := 109 :: digs k k []
theorem mtL_lt (k : Nat) : ∀ x ∈ mtL k, x < 256 := by
  intro x hx
  rcases List.mem_cons.1 hx with rfl | hx
  · omega
  · exact digs_lt k k [] (by simp) x hx
def mtB (k : Nat) : ByteArray := ⟨((mtL k).map UInt8.ofNat).toArray⟩
theorem mtB_nb (k : Nat) : nb (mtB k) = mtL k := by
  unfold nb mtB
  simp only [List.map_map]
  conv => rhs; rw [← List.map_id (mtL k)]
  apply List.map_congr_left
  intro x hx
  have := mtL_lt k x hx
  simp [UInt8.toNat_ofNat']
  omega
def marksS (k n : Nat) : List ByteArray := (List.range n).map fun j => mtB (k + j)
theorem marksS_len (k n : Nat) : (marksS k n).length = n := by simp [marksS]
theorem marksS_at (k n j : Nat) (h : j < n) : (marksS k n)[j]? = some (mtB (k + j)) := by simp [marksS, h]

set_option maxHeartbeats 1000000 in
theorem laws_markText (k0 : Nat) (w : World) (h1 : 1 ≤ k0) (h2 : k0 ≤ 100000000) :
    Calls Tryd.prog 37 #[.int .i64 (k0 : Int)] w fun e w' => e = .returned (.string (mtB k0)) ∧ Below w.heap.size w w' := by
  go_enter Tryd.func37, Tryd.ntmps37
  go_wp2
  go_loopw [0, 3] (fun i o wr => ∃ (k f : Nat) (s : ByteArray), k ≤ k0 ∧ k ≤ f ∧ i = .int .i64 k ∧ o = .string s ∧ digs f k (nb s) = digs k0 k0 [] ∧ s.size + k ≤ k0 ∧ Below w.heap.size w wr) (fun i _ _ => (intOf i).toNat)
  case atStart => exact ⟨k0, k0, ByteArray.empty, Nat.le_refl _, Nat.le_refl _, rfl, rfl, rfl, Nat.le_of_eq (Nat.zero_add _), Below.refl _ _⟩
  case round =>
    obtain ⟨k, f, s, hk, hf, rfl, rfl, hd, hs, hbe⟩ := hrel
    have Hd := Lib.hid hd
    clear hd
    by_cases hlt : 0 < k
    · obtain ⟨r, hr, hrun⟩ := of_one wr (48 + (k : Int) % 10) (by omega) (by omega)
      have hrs : r.size ≤ 1 := by rw [← nb_length, hr]; simp
      have hrs1 : 1 ≤ r.size := by rw [← nb_length, hr]; simp
      have Hr := Lib.hid hr
      clear hr
      go_wp2
      go_roundw
      case rel =>
        refine ⟨k / 10, f - 1, _, by omega, by omega, by go_num, rfl, ?_, ?_, hbe.alloc hbe.size _⟩
        · rw [nb_append, Hr.out]
          have h3 := Hd.out
          obtain ⟨f', rfl⟩ : ∃ f', f = f' + 1 := ⟨f - 1, by omega⟩
          rw [digs, if_neg (by omega)] at h3
          rw [← h3]
          have e : (48 + (k : Int) % 10).toNat = 48 + k % 10 := by omega
          rw [e]
          rfl
        · rw [ByteArray.size_append]; omega
      case measure => simp [intOf]; omega
    · have hk0 : k = 0 := by omega
      subst hk0
      go_wp2
      go_ret
      refine ⟨?_, hbe⟩
      have h3 := Hd.out
      rw [digs_zero] at h3
      refine congrArg (fun b => Ending.returned (.string b)) (nb_inj ?_)
      rw [nb_append, mtB_nb, h3]
      rfl

/-- What marking leaves: the row is marked; only its block has changed. -/
def SMarked (w : World) (lo hi : Nat) (A : Option Addr) (k : Nat) (n : Nat) (e : Ending) (w' : World) : Prop :=
  e = .returned (.int .i64 ((k + n : Nat) : Int)) ∧ SOwn w' lo hi A (marksS k n) ∧ SKept w w' lo hi
set_option maxHeartbeats 1000000 in
theorem laws_markStringS (A : Option Addr) (n c lo hi k0 : Nat) (zs : List ByteArray) (w : World) (h : SOwn w lo hi A zs) (hn : zs.length = n) (hb : n ≤ 1048576) (hk0 : 1 ≤ k0) (hk1 : k0 ≤ 10000000) :
    Calls Tryd.prog 28 #[.slice A n c, .int .i64 (k0 : Int)] w (SMarked w lo hi A k0 n) := by
  have Hn := Lib.hid hn
  have HL := Lib.hid ((marksS_len k0 n).trans hn.symm)
  clear hn
  by_cases h0 : n = 0
  · subst h0
    go_enter Tryd.func28, Tryd.ntmps28
    go_wp2
    refine wp_loop_rounds 1 ?_
    rw [rounds_succ]
    go_wp2
    go_ret
    exact ⟨rfl, .inl rfl, SKept.refl _ _ _⟩
  · have hne : zs ≠ [] := by intro e; have := Hn.out; subst e; simp at this; omega
    rcases h with h | ⟨g, rfl, hlo, hhi, hbuf⟩
    · exact absurd h hne
    clear hne
    go_enter Tryd.func28, Tryd.ntmps28
    go_wp2
    go_loopw [1, 5] (fun q i wr => ∃ k : Nat, k ≤ n ∧ i = .int .i64 k ∧ q = .int .i64 ((k0 + k : Nat) : Int) ∧ Buf wr g 9 (scells (mix (marksS k0 n) zs k)) ∧ SKept w wr lo hi) (fun _ i _ => n - (intOf i).toNat)
    case atStart => exact ⟨0, Nat.zero_le _, rfl, rfl, by rw [mix_zero]; exact hbuf, SKept.refl _ _ _⟩
    case round =>
      obtain ⟨k, hk, rfl, rfl, hbk, hgr⟩ := hrel
      by_cases hlt : k < n
      · have Hm := Lib.hid (marksS_at k0 n k hlt)
        go_wp2_with fail
        refine (laws_markText (k0 + k) wr (by omega) (by omega)).mono ?_
        rintro e v1 ⟨rfl, hb1⟩
        have hbk1 := hbk.next hb1
        have hgr1 := hgr.then_ hb1
        have hfree := hbk1.free (j := k) (by rw [scells_len, mix_len _ _ _ HL.out, Hn.out]; exact hlt)
        obtain ⟨u, hcell⟩ : ∃ u, v1.cell? ⟨g, k, none⟩ = some u := by
          obtain ⟨u, hu⟩ := sget (scells (mix (marksS k0 n) zs k)) k (by rw [scells_len, mix_len _ _ _ HL.out, Hn.out]; exact hlt)
          exact ⟨u, hbk1.cell hu⟩
        go_wp2_with fail
        go_roundw
        case rel => exact ⟨k + 1, by omega, by go_num, by go_num, hbk1.sput HL.out Hm.out, ⟨hgr1.os, hgr1.tape, hgr1.output, by simpa [World.setCell] using hgr1.size, fun i hi' hne => (Below.heap_setCell v1 _ _ i (by show i ≠ g; omega)).trans (hgr1.block i hi' hne)⟩⟩
        case measure => simp [intOf]; omega
      · have hkn : k = n := by omega
        subst hkn
        rw [mix_endS HL.out (marksS_len _ _)] at hbk
        go_wp2
        go_ret
        exact ⟨rfl, .inr ⟨g, rfl, hlo, hhi, hbk⟩, hgr⟩
set_option maxHeartbeats 1000000 in
theorem laws_heldStringS (A : Option Addr) (n c k0 : Nat) (w : World) (h : Strs w A (marksS k0 n)) (hb : n ≤ 1048576) (hk0 : 1 ≤ k0) (hk1 : k0 ≤ 10000000) :
    Calls Tryd.prog 29 #[.slice A n c, .int .i64 (k0 : Int)] w fun e w' => e = .returned (.int .i64 ((k0 + n : Nat) : Int)) ∧ Below w.heap.size w w' := by
  go_enter Tryd.func29, Tryd.ntmps29
  go_wp2
  go_loopw [1, 5] (fun q i wr => ∃ k : Nat, k ≤ n ∧ i = .int .i64 k ∧ q = .int .i64 ((k0 + k : Nat) : Int) ∧ Below w.heap.size w wr) (fun _ i _ => n - (intOf i).toNat)
  case atStart => exact ⟨0, Nat.zero_le _, rfl, rfl, Below.refl _ _⟩
  case round =>
    obtain ⟨k, hk, rfl, rfl, hbe⟩ := hrel
    by_cases hlt : k < n
    · obtain ⟨b, off, rfl, hbl, hc⟩ := (h.next hbe).at_ (marksS_at k0 n k hlt)
      have H := Lib.hid h
      clear h
      go_wp2_with fail
      go_region_with (go_at_call 37; refine (laws_markText (k0 + k) _ (by omega) (by omega)).mono ?_; rintro e v1 ⟨rfl, hb1⟩; have hc1 := (hb1.cell (p := ⟨b, off + k, none⟩) (by exact hbl)).trans hc)
      all_goals
        go_wp2
        go_roundw
        case rel => exact ⟨k + 1, by omega, by go_num, by go_num, bthenB hbe.drew hb1 hbe.size⟩
        case measure => simp [intOf]; omega
    · go_wp2
      go_ret
      exact ⟨ret_int (by omega), hbe⟩
end Go.Proofs.YtchjhngfkngljaaDoor
