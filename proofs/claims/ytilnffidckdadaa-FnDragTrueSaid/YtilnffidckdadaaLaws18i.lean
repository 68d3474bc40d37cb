/- The walk of the law on a crib in its own place. No condition. -/
import Derived.Test.YtilnffidckdadaaDrag
import Derived.Test.YtilnffidckdadaaRev
import Derived.Test.YtilnffidckdadaaDraw18b
set_option linter.unusedVariables false
namespace Go.Proofs.Ytilnffidckdadaa
open Go.RowKit

theorem letter_back {v w k : Nat} (hv1 : 97 ≤ v) (hv2 : v ≤ 106) (hw1 : 97 ≤ w) (hw2 : w ≤ 106) (hk1 : 97 ≤ k) (hk2 : k ≤ 106) : mix1 9 (mix1 1 v k) (mix1 9 (mix1 1 w k) w) = v := by
  unfold mix1
  obtain ⟨v, rfl⟩ : ∃ x, v = 97 + x := ⟨v - 97, by omega⟩
  obtain ⟨w, rfl⟩ : ∃ x, w = 97 + x := ⟨w - 97, by omega⟩
  obtain ⟨k, rfl⟩ : ∃ x, k = 97 + x := ⟨k - 97, by omega⟩
  omega
/-- The crib in its own place tells the other word. -/
theorem drag_true {a k v : List Nat} {t m : Nat} (ha : wv a = true) (hk : wv k = true) (hv : wv v = true) (hl : a.length = k.length) (hlv : v.length = k.length) (htm : t + m ≤ a.length) :
    dgAt (mixL 1 a k) (seg a t m) (mixL 1 v k) t = seg v t m := by
  have hla : (mixL 1 a k).length = k.length := mixL_len hl
  have hlv' : (mixL 1 v k).length = k.length := mixL_len hlv
  unfold dgAt
  rw [seg_len htm]
  apply List.ext_getElem?
  intro i
  rcases Nat.lt_or_ge i m with hi | hi
  · obtain ⟨x, hx⟩ : ∃ x, a[t + i]? = some x := ⟨_, List.getElem?_eq_getElem (by omega)⟩
    obtain ⟨y, hy⟩ : ∃ y, k[t + i]? = some y := ⟨_, List.getElem?_eq_getElem (by omega)⟩
    obtain ⟨z, hz⟩ : ∃ z, v[t + i]? = some z := ⟨_, List.getElem?_eq_getElem (by omega)⟩
    have h1 := wv_at ha hx
    have h2 := wv_at hk hy
    have h3 := wv_at hv hz
    have e1 : (seg (mixL 1 v k) t m)[i]? = some (mix1 1 z y) := by rw [seg_at (by omega) hi]; exact zipWith_at hz hy
    have e2 : (seg (mixL 1 a k) t m)[i]? = some (mix1 1 x y) := by rw [seg_at (by omega) hi]; exact zipWith_at hx hy
    have e3 : (seg a t m)[i]? = some x := by rw [seg_at htm hi]; exact hx
    have e4 : (seg v t m)[i]? = some z := by rw [seg_at (by omega) hi]; exact hz
    rw [e4]
    refine (zipWith_at e1 (zipWith_at e2 e3)).trans ?_
    rw [letter_back h3.1 h3.2 h1.1 h1.2 h2.1 h2.2]
  · rw [List.getElem?_eq_none, List.getElem?_eq_none]
    · rw [seg_len (by omega)]; exact hi
    · simp [mixL, seg]; omega
theorem rv_wv {l : List Nat} (h : wv l = true) : wv l.reverse = true := by
  have hl := wv_len h
  refine wv_of (by simp; omega) fun k c hc => ?_
  have hm : c ∈ l := by simpa using List.mem_of_getElem? hc
  obtain ⟨j, hj⟩ := List.getElem?_of_mem hm
  exact wv_at h hj
theorem sh_wv {l : List Nat} (h : l.length ≤ 200) (n : Nat) : wv (l.map (fun c => 97 + (c - 97 + n) % 10)) = true := by
  refine wv_of (by simpa using h) fun k c hc => ?_
  have hm := List.mem_of_getElem? hc
  simp only [List.mem_map] at hm
  obtain ⟨d, _, rfl⟩ := hm
  omega
set_option maxHeartbeats 1000000 in
theorem spec_l1Mix1 (a b : ByteArray) (w : World) (hma : a.size ≤ maxLen) (hmb : b.size ≤ maxLen) :
    Calls Try.prog 58 #[.string a, .string b, .int .i64 1] w (RetSB w (cw 1 (nb a) (nb b)) (cwOk (nb a) (nb b))) := by
  have hma' := hma
  have hmb' := hmb
  unfold maxLen at hma' hmb'
  cases h : cwOk (nb a) (nb b)
  · have hr : cw 1 (nb a) (nb b) = [] := by rw [cw, h]; rfl
    rw [hr]
    clear hr
    unfold cwOk at h
    rw [nb_length, nb_length] at h
    rcases g3_no h with g1 | ⟨g1, g2⟩ | ⟨g1, g2, g3⟩
    · clear h
      go_enter Try.func58, Try.ntmps58
      go_wp2_with fail
      refine (spec_WordValid _ _ hma).mono ?_
      rintro e v0 ⟨rfl, rfl⟩
      go_wp2_with fail
      go_ret2
      exact ⟨ByteArray.empty, rfl, rfl, Below.refl _ _⟩
    all_goals
      clear h
      go_enter Try.func58, Try.ntmps58
      go_wp2_with fail
      refine (spec_WordValid _ _ hma).mono ?_
      rintro e v0 ⟨rfl, rfl⟩
      go_wp2_with fail
      refine (spec_WordValid _ _ hmb).mono ?_
      rintro e v1 ⟨rfl, rfl⟩
      go_wp2_with fail
      go_ret2
      exact ⟨ByteArray.empty, rfl, rfl, Below.refl _ _⟩
  · have hr : cw 1 (nb a) (nb b) = mixL 1 (nb a) (nb b) := by rw [cw, h]; rfl
    rw [hr]
    clear hr
    obtain ⟨va, vb, hl⟩ := g3_yes h
    have la := wv_len va
    rw [nb_length, nb_length] at hl
    rw [nb_length] at la
    have hne : ((a.size : Int) != (b.size : Int)) = false := ne_no hl
    have HL : Hid ((mixL 1 (nb a) (nb b)).length = a.size) := by show _ = _; rw [mixL_len (by rw [nb_length, nb_length]; exact hl), nb_length]; exact hl.symm
    have Hva := Lib.hid va
    have Hvb := Lib.hid vb
    have hlab : a.size ≤ b.size := by omega
    clear h hl
    go_enter Try.func58, Try.ntmps58
    go_wp2_with fail
    refine (spec_WordValid _ _ hma).mono ?_
    rintro e v0 ⟨rfl, rfl⟩
    go_wp2_with fail
    refine (spec_WordValid _ _ hmb).mono ?_
    rintro e v1 ⟨rfl, rfl⟩
    go_wp2_with fail
    go_loopw [8, 9] (fun o i wr => ∃ (k : Nat) (s : ByteArray), k ≤ a.size ∧ i = .int .i64 k ∧ o = .string s ∧ Hid (nb s = (mixL 1 (nb a) (nb b)).take k) ∧ Below w.heap.size w wr) (fun _ i _ => a.size - (intOf i).toNat)
    case atStart => exact ⟨0, ByteArray.empty, Nat.zero_le _, rfl, rfl, rfl, Below.refl _ _⟩
    case round =>
      obtain ⟨k, s, hk, rfl, rfl, Hs, hbe⟩ := hrel
      have hss : s.size ≤ 200 := by rw [← nb_length, Hs.out, List.length_take]; omega
      by_cases hlt : k < a.size
      · obtain ⟨c, hc⟩ : ∃ c, (nb a)[k]? = some c := ⟨_, nb_get? a k hlt⟩
        obtain ⟨p, hp⟩ : ∃ p, (nb b)[k]? = some p := ⟨_, nb_get? b k (by omega)⟩
        have Hn := Lib.hid (take_snoc _ _ _ (zipWith_at (f := mix1 1) hc hp))
        obtain ⟨hc1, hc2⟩ := wv_at Hva.out hc
        obtain ⟨hp1, hp2⟩ := wv_at Hvb.out hp
        have Hc := Lib.hid hc
        have Hp := Lib.hid hp
        clear hc hp
        go_wp2_with fail
        refine (spec_l1Digit _ _ k c _ rfl Hc.out).mono ?_
        rintro e v2 ⟨rfl, rfl⟩
        go_wp2_with fail
        refine (spec_l1Digit _ _ k p _ rfl Hp.out).mono ?_
        rintro e v3 ⟨rfl, rfl⟩
        go_wp2_with fail
        refine (spec_l1Letter _ _).mono ?_
        rintro e v4 ⟨r, rfl, hr, hb4⟩
        have hrs : r.size = 1 := by rw [← nb_length, hr]; rfl
        have hrs' : r.size ≤ 1 := by omega
        have Hr : Hid (nb r = [mix1 1 c p]) := by
          show _ = _
          rw [hr]
          unfold mix1
          congr 1
          omega
        clear hr hrs
        go_wp2
        go_roundw
        case rel => exact ⟨k + 1, _, by omega, by go_num, rfl, (show nb (s ++ r) = _ by rw [nb_append, Hs.out, Hr.out]; exact Hn.out.symm), bthenB hbe hb4 hbe.size⟩
        case measure => simp [intOf]; omega
      · have hkn : k = a.size := by omega
        have Hs' : Hid (nb s = mixL 1 (nb a) (nb b)) := by show _ = _; rw [Hs.out, hkn, ← HL.out, List.take_length]
        go_wp2_with fail
        go_ret2
        exact ⟨s, rfl, Hs'.out, hbe⟩
theorem spec_AddWords (a b : ByteArray) (w : World) (hma : a.size ≤ maxLen) (hmb : b.size ≤ maxLen) :
    Calls Try.prog 39 #[.string a, .string b] w (RetSB w (cw 1 (nb a) (nb b)) (cwOk (nb a) (nb b))) := by
  go_enter Try.func39, Try.ntmps39
  go_wp2_with fail
  refine (spec_l1Mix1 a b _ hma hmb).mono ?_
  rintro e v1 ⟨r, rfl, hr, hb⟩
  have Hr := Lib.hid hr
  clear hr
  go_wp2_with fail
  go_ret2
  exact ⟨r, rfl, Hr.out, hb⟩
end Go.Proofs.Ytilnffidckdadaa
