/- Words that are drawn: some word, not too long; only the source's own block changes. No condition. -/
import Derived.Test.YtppdikegmijfgaaRd
import Derived.OpenShut
set_option linter.unusedVariables false
namespace Go.Proofs.Ytppdikegmijfgaa
open Go.RowKit

/-- A string is drawn: of at most m bytes, by at most q draws. -/
def DrS (w : World) (g p q m : Nat) (e : Ending) (w' : World) : Prop := ∃ r p', e = .returned (.string r) ∧ r.size ≤ m ∧ p' ≤ p + q ∧ Rd w' g p' ∧ w.grownBy w' (some g)

theorem BRow.of_row {w : World} {a : Option Addr} {len cap : Nat} {zs : List Int} (h : IsRow .u8 w a len cap zs) (o : Obj) (n : Nat) (hn : n ≤ len) : BRow (w.alloc o) w.heap.size a n := by
  rcases h with ⟨rfl, rfl, rfl, rfl⟩ | ⟨x, rfl, hl, hm, hz, hc, hw⟩
  · exact .inl (by omega)
  · by_cases h0 : n = 0
    · exact .inl h0
    · obtain ⟨b, off, spot⟩ := x
      have hc0 := hc 0 (by omega)
      have hs : spot = none := by simpa [Addr.add] using World.cell?_spot hc0
      subst hs
      have hadd : ∀ j, (⟨b, off, none⟩ : Addr).add j = ⟨b, off + j, none⟩ := fun j => by unfold Addr.add; split <;> simp_all
      rw [hadd] at hc0
      have hb : b < w.heap.size := block_lt_of_cell hc0
      refine .inr ⟨b, off, rfl, hb, fun j hj => ?_⟩
      have := hc j (by omega)
      rw [hadd] at this
      refine ⟨zs.getD j 0, by rw [World.cell?_alloc_lt w o _ hb]; exact this, ?_⟩
      have hmem : zs.getD j 0 ∈ zs := by
        rw [List.getD_eq_getElem?_getD, List.getElem?_eq_getElem (by omega : j < zs.length)]
        exact List.getElem_mem _
      exact bounds_u8 (hw _ hmem)

set_option maxHeartbeats 400000 in
theorem spec_l21Open (a : Option Addr) (len cap : Nat) (zs : List Int) (w : World) (h : IsRow .u8 w a len cap zs) :
    Calls Try.prog 12 #[.slice a len cap] w fun e w' => e = .returned (.pointer (some ⟨w.heap.size, 0, none⟩)) ∧ Rd w' w.heap.size 0 ∧ Below w.heap.size w w' := by
  have hl := h.len_le
  by_cases hb : 2000 < len
  · have hcap : 2000 ≤ cap := by rcases h with ⟨_, h, _, _⟩ | ⟨_, _, h1, _⟩ <;> omega
    have H := Lib.hid h
    clear h
    go_enter Try.func12, Try.ntmps12
    go_wp2
    go_ret
    exact ⟨rfl, ⟨a, 2000, cap, heap_alloc_new w _, by omega, BRow.of_row H.out _ _ (by omega)⟩, (Below.refl _ _).alloc (Nat.le_refl _) _⟩
  · have H := Lib.hid h
    clear h
    go_enter Try.func12, Try.ntmps12
    go_wp2
    go_ret
    exact ⟨rfl, ⟨a, len, cap, heap_alloc_new w _, by omega, BRow.of_row H.out _ _ (Nat.le_refl _)⟩, (Below.refl _ _).alloc (Nat.le_refl _) _⟩

set_option maxHeartbeats 1000000 in
theorem spec_l1Some (g p L : Nat) (w : World) (h : Rd w g p) (hp : p ≤ 100000) (hL : L ≤ 300) :
    Calls Try.prog 34 #[.pointer (some ⟨g, 0, none⟩), .int .i64 (L : Int)] w fun e w' => ∃ r, e = .returned (.string r) ∧ r.size = L ∧ Rd w' g (p + L) ∧ w.grownBy w' (some g) := by
  have H := Lib.hid h
  clear h
  go_enter Try.func34, Try.ntmps34
  go_wp2
  go_loopw [5, 6] (fun o i wr => ∃ (k : Nat) (s : ByteArray), k ≤ L ∧ i = .int .i64 k ∧ o = .string s ∧ s.size = k ∧ Rd wr g (p + k) ∧ w.grownBy wr (some g)) (fun _ i _ => L - (intOf i).toNat)
  case atStart => exact ⟨0, ByteArray.empty, Nat.zero_le _, rfl, rfl, rfl, H.out, World.grownBy.refl _ _⟩
  case round =>
    obtain ⟨k, s, hk, rfl, rfl, hs, hr, hg⟩ := hrel
    have hss : s.size ≤ 300 := by omega
    have Hs := Lib.hid hs
    clear hs
    by_cases hlt : k < L
    · go_wp2_with fail
      refine (spec_pick g (p + k) 10 wr hr (by omega) (by omega) (by omega)).mono ?_
      rintro e v1 ⟨m, rfl, hm, hr1, hg1⟩
      go_wp2_with fail
      refine (spec_l1Letter _ _).mono ?_
      rintro e v2 ⟨r, rfl, hr2, hb2⟩
      have hrs : r.size = 1 := by rw [← nb_length, hr2]; rfl
      have hrs' : r.size ≤ 1 := by omega
      have Hrs := Lib.hid hrs
      clear hr2 hrs hm
      go_wp2
      go_roundw
      case rel => exact ⟨k + 1, _, by omega, by go_num, rfl, by rw [ByteArray.size_append, Hs.out, Hrs.out], hr1.next hb2, gthen (gthen hg hg1) (gbel hb2 _)⟩
      case measure => simp [intOf]; omega
    · go_wp2
      go_ret
      have hkL : k = L := by omega
      exact ⟨s, rfl, by rw [Hs.out, hkL], by rw [← hkL]; exact hr, hg⟩
theorem spec_l1Word (g p M : Nat) (w : World) (h : Rd w g p) (hp : p ≤ 90000) (hM : M ≤ 200) :
    Calls Try.prog 14 #[.pointer (some ⟨g, 0, none⟩), .int .i64 (M : Int)] w (DrS w g p 300 M) := by
  go_enter Try.func14, Try.ntmps14
  go_wp2_with fail
  refine (spec_pick g p _ w h (by omega) (by omega) (by omega)).mono ?_
  rintro e v1 ⟨m, rfl, hm, hr1, hg1⟩
  have hm' : m ≤ M := by omega
  clear hm
  go_wp2_with fail
  refine (spec_l1Some g (p + 1) m v1 hr1 (by omega) (by omega)).mono ?_
  rintro e v2 ⟨r, rfl, hrs, hr2, hg2⟩
  have hrs' : r.size ≤ M := by omega
  clear hrs
  go_wp2_with fail
  go_ret
  exact ⟨r, _, rfl, hrs', by omega, hr2, gthen hg1 hg2⟩
theorem spec_num (g p n c : Nat) (A : Option Addr) (zs : List Int) (w : World) (h : Rd w g p) (hp : p ≤ 900000) (hn : 1 ≤ n) (hn2 : n ≤ 100) (ad : Addr)
    (hA : A = some ad) (hs : ad.spot = none) (hne : ad.block ≠ g) (hl : zs.length = n) (hc : ∀ (j : Nat) (z : Int), zs[j]? = some z → w.cell? ⟨ad.block, ad.off + j, none⟩ = some (.int .i64 z)) :
    Calls Try.prog 33 #[.pointer (some ⟨g, 0, none⟩), .slice A n c] w fun e w' => ∃ z, e = .returned (.int .i64 z) ∧ z ∈ zs ∧ Rd w' g (p + 1) ∧ w.grownBy w' (some g) := by
  subst hA
  obtain ⟨b, off, spot⟩ := ad
  simp only at hs hne hc
  subst hs
  have Hl := Lib.hid hl
  clear hl
  go_enter Try.func33, Try.ntmps33
  go_wp2_with fail
  refine (spec_pick g p _ w h (by omega) (by omega) (by omega)).mono ?_
  rintro e v1 ⟨m, rfl, hm, hr1, hg1⟩
  have hm' : m < n := by omega
  obtain ⟨z, hz⟩ : ∃ z, zs[m]? = some z := ⟨_, List.getElem?_eq_getElem (by rw [Hl.out]; exact hm')⟩
  have hcell := hg1.cell (hc m z hz) (by simpa using hne)
  have Hz := Lib.hid (List.mem_of_getElem? hz)
  clear hm hz hc
  go_wp2_with fail
  go_ret
  exact ⟨z, rfl, Hz.out, hr1, hg1⟩
theorem spec_of (g p n c : Nat) (A : Option Addr) (zs : List ByteArray) (w : World) (h : Rd w g p) (hp : p ≤ 900000) (hn : 1 ≤ n) (hn2 : n ≤ 100) (ad : Addr)
    (hA : A = some ad) (hs : ad.spot = none) (hne : ad.block ≠ g) (hl : zs.length = n) (hc : ∀ (j : Nat) (z : ByteArray), zs[j]? = some z → w.cell? ⟨ad.block, ad.off + j, none⟩ = some (.string z)) :
    Calls Try.prog 31 #[.pointer (some ⟨g, 0, none⟩), .slice A n c] w fun e w' => ∃ z, e = .returned (.string z) ∧ z ∈ zs ∧ Rd w' g (p + 1) ∧ w.grownBy w' (some g) := by
  subst hA
  obtain ⟨b, off, spot⟩ := ad
  simp only at hs hne hc
  subst hs
  have Hl := Lib.hid hl
  clear hl
  go_enter Try.func31, Try.ntmps31
  go_wp2_with fail
  refine (spec_pick g p _ w h (by omega) (by omega) (by omega)).mono ?_
  rintro e v1 ⟨m, rfl, hm, hr1, hg1⟩
  have hm' : m < n := by omega
  obtain ⟨z, hz⟩ : ∃ z, zs[m]? = some z := ⟨_, List.getElem?_eq_getElem (by rw [Hl.out]; exact hm')⟩
  have hcell := hg1.cell (hc m z hz) (by simpa using hne)
  have Hz := Lib.hid (List.mem_of_getElem? hz)
  clear hm hz hc
  go_wp2_with fail
  go_ret
  exact ⟨z, rfl, Hz.out, hr1, hg1⟩
theorem many_odd (o s n S : Nat) (h : o + s * n = S) (hn : n % 2 = 1) : (o + s) + (s + s) * (n / 2) = S ∧ s ≤ S := by
  obtain ⟨k, rfl⟩ : ∃ k, n = 2 * k + 1 := ⟨n / 2, by omega⟩
  have e : (2 * k + 1) / 2 = k := by omega
  rw [e]
  have e2 : s * (2 * k + 1) = s * k + s * k + s := by rw [Nat.mul_add, Nat.mul_one, Nat.mul_comm 2 k, ← Nat.mul_assoc, Nat.mul_two]
  have e3 : (s + s) * k = s * k + s * k := Nat.add_mul _ _ _
  omega
theorem many_even (o s n S : Nat) (h : o + s * n = S) (hn : n % 2 = 0) (h0 : 0 < n) : o + (s + s) * (n / 2) = S ∧ s ≤ S := by
  obtain ⟨k, rfl⟩ : ∃ k, n = 2 * k := ⟨n / 2, by omega⟩
  have e : (2 * k) / 2 = k := by omega
  rw [e]
  have e2 : s * (2 * k) = s * k + s * k := by rw [Nat.mul_comm 2 k, ← Nat.mul_assoc, Nat.mul_two]
  have e3 : (s + s) * k = s * k + s * k := Nat.add_mul _ _ _
  have e4 : s ≤ s * k := Nat.le_mul_of_pos_right _ (by omega)
  omega
set_option maxHeartbeats 1000000 in
theorem spec_l21Many (a : ByteArray) (n : Nat) (w : World) (ha : a.size * n ≤ 1000000) (ha2 : a.size ≤ 1000000) (hn : n ≤ 1000000) :
    Calls Try.prog 32 #[.string a, .int .i64 (n : Int)] w fun e w' => ∃ r, e = .returned (.string r) ∧ r.size = a.size * n ∧ w = w' := by
  obtain ⟨S, hS⟩ : ∃ S, a.size * n = S := ⟨_, rfl⟩
  rw [hS]
  have HS := Lib.hid hS
  have hS2 : S ≤ 1000000 := by omega
  clear hS ha
  go_enter Try.func32, Try.ntmps32
  go_wp2
  go_loop [0, 1, 5] (fun s i o => ∃ (k : Nat) (x y : ByteArray), k ≤ n ∧ i = .int .i64 k ∧ s = .string x ∧ o = .string y ∧ y.size + x.size * k = S ∧ x.size ≤ 2000000) (fun _ i _ => (intOf i).toNat)
  case atStart => exact ⟨n, a, ByteArray.empty, Nat.le_refl _, rfl, rfl, rfl, by rw [HS.out]; exact Nat.zero_add _, by omega⟩
  case round =>
    obtain ⟨k, x, y, hk, rfl, rfl, rfl, hxy, hx⟩ := hrel
    have Hxy := Lib.hid hxy
    have hy : y.size ≤ 1000000 := by omega
    clear hxy
    by_cases h0 : 0 < k
    · by_cases h1 : k % 2 = 1
      · have h2 := many_odd _ _ _ _ Hxy.out h1
        have hx2 : x.size ≤ S := h2.2
        have H2 := Lib.hid h2.1
        have hb : (((k : Int) % 2) == 1) = true := by rw [beq_iff_eq]; omega
        clear h2 h1
        go_wp2
        go_round
        case rel => exact ⟨k / 2, _, _, by omega, by go_num, rfl, rfl, by rw [ByteArray.size_append, ByteArray.size_append]; exact H2.out, by rw [ByteArray.size_append]; omega⟩
        case measure => simp [intOf]; omega
      · have h2 := many_even _ _ _ _ Hxy.out (by omega) h0
        have hx2 : x.size ≤ S := h2.2
        have H2 := Lib.hid h2.1
        have hb : (((k : Int) % 2) == 1) = false := by rw [beq_eq_false_iff_ne]; omega
        clear h2 h1
        go_wp2
        go_round
        case rel => exact ⟨k / 2, _, _, by omega, by go_num, rfl, rfl, by rw [ByteArray.size_append]; exact H2.out, by rw [ByteArray.size_append]; omega⟩
        case measure => simp [intOf]; omega
    · go_wp2
      go_ret
      refine ⟨y, rfl, ?_, rfl⟩
      have := Hxy.out
      have hk0 : k = 0 := by omega
      subst hk0
      simpa using this
theorem cells_lit (w : World) (l : List Value) (t : TypeId) (j : Nat) (u : Value) (h : l[j]? = some u) : (w.alloc (.cells l.toArray t)).cell? ⟨w.heap.size, 0 + j, none⟩ = some u := by
  rw [Nat.zero_add, World.cell?_alloc_mark]; simpa using h
theorem Rd.alloc {w : World} {g p : Nat} (h : Rd w g p) (o : Obj) : Rd (w.alloc o) g p := h.next ((Below.refl _ _).alloc (Nat.le_refl _) o)
theorem galloc (w : World) (o : Obj) (row : Option Nat) : w.grownBy (w.alloc o) row := gbel ((Below.refl _ _).alloc (Nat.le_refl _) o) row
end Go.Proofs.Ytppdikegmijfgaa
