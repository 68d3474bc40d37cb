/- A crib that is dragged along two words: both programs return what the plain function says. No condition. -/
import Derived.Test.YtilnffidckdadaaKey
import Derived.Test.YtilnffidckdadaaMix
import Derived.Test.YtilnffidckdadaaStrs
set_option linter.unusedVariables false
namespace Go.Proofs.Ytilnffidckdadaa
open Go.RowKit

theorem minus_mix {c p : Nat} (h1 : 97 ≤ c) (h2 : c ≤ 106) (h3 : 97 ≤ p) (h4 : p ≤ 106) : minus1 c p = mix1 9 c p := by
  unfold minus1 mix1
  rw [if_neg (by omega)]
  omega
/-- m letters from t on. -/
def seg (l : List Nat) (t m : Nat) : List Nat := (l.take (t + m)).drop t
theorem seg_len {l : List Nat} {t m : Nat} (h : t + m ≤ l.length) : (seg l t m).length = m := by simp [seg]; omega
theorem seg_at {l : List Nat} {t m k : Nat} (h : t + m ≤ l.length) (hk : k < m) : (seg l t m)[k]? = l[t + k]? := by
  unfold seg
  rw [List.getElem?_drop, List.getElem?_take, if_pos (by omega)]
theorem wv_seg {l : List Nat} {t m : Nat} (hv : wv l = true) (h : t + m ≤ l.length) : wv (seg l t m) = true := by
  have hl := wv_len hv
  refine wv_of (by rw [seg_len h]; omega) fun k c hc => ?_
  have hk : k < m := by have := (List.getElem?_eq_some_iff.1 hc).1; rwa [seg_len h] at this
  rw [seg_at h hk] at hc
  exact wv_at hv hc
theorem wv_mixL {t : Nat} {v w : List Nat} (h1 : v.length ≤ 200) (h : v.length = w.length) : wv (mixL t v w) = true := by
  refine wv_of (by simp [mixL]; omega) fun k c hc => ?_
  unfold mixL at hc
  rw [List.getElem?_zipWith] at hc
  split at hc
  · injection hc with hc
    unfold mix1 at hc
    omega
  · cases hc
theorem mixL_len {t : Nat} {v w : List Nat} (h : v.length = w.length) : (mixL t v w).length = w.length := by simp [mixL]; omega
theorem minusL_seg {l p : List Nat} {t : Nat} (hv : wv l = true) (hp : wv p = true) (h : t + p.length ≤ l.length) : minusL (l.drop t) p = mixL 9 (seg l t p.length) p := by
  apply List.ext_getElem?
  intro k
  unfold minusL mixL
  rw [List.getElem?_zipWith, List.getElem?_zipWith]
  rcases Nat.lt_or_ge k p.length with hk | hk
  · obtain ⟨c, hc⟩ : ∃ c, l[t + k]? = some c := ⟨_, List.getElem?_eq_getElem (by omega)⟩
    obtain ⟨q, hq⟩ : ∃ q, p[k]? = some q := ⟨_, List.getElem?_eq_getElem hk⟩
    rw [seg_at h hk, List.getElem?_drop, hc, hq]
    have h1 := wv_at hv hc
    have h2 := wv_at hp hq
    simp only [minus_mix h1.1 h1.2 h2.1 h2.2]
  · rw [List.getElem?_eq_none (l := p) hk]
    split
    · rename_i h1 h2; cases h2
    · split
      · rename_i h1 h2; cases h2
      · rfl
/-- What the crib tells at the place t. -/
def dgAt (c p o : List Nat) (t : Nat) : List Nat := mixL 9 (seg o t p.length) (mixL 9 (seg c t p.length) p)
def dgK (c p o : List Nat) (k : Nat) : List (List Nat) := (List.range k).map (dgAt c p o)
def dgN (c p : List Nat) : Nat := c.length + 1 - p.length
def dgOk (c p o : List Nat) : Bool := wv c && (wv p && g3 true (wv o) c.length o.length)
def dg (c p o : List Nat) : List (List Nat) := if dgOk c p o then dgK c p o (dgN c p) else []
theorem dgK_succ (c p o : List Nat) (k : Nat) : dgK c p o (k + 1) = dgK c p o k ++ [dgAt c p o k] := by simp [dgK, List.range_succ]
theorem dgK_at (c p o : List Nat) (k t : Nat) (h : t < k) : (dgK c p o k)[t]? = some (dgAt c p o t) := by simp [dgK, h]
theorem dgOk_yes {c p o : List Nat} (h : dgOk c p o = true) : wv c = true ∧ wv p = true ∧ wv o = true ∧ c.length = o.length := by
  simp only [dgOk, Bool.and_eq_true] at h
  obtain ⟨h1, h2, h3⟩ := h
  obtain ⟨_, h4, h5⟩ := g3_yes h3
  exact ⟨h1, h2, h4, h5⟩
theorem dgOk_no {c p o : List Nat} (h : dgOk c p o = false) : wv c = false ∨ (wv c = true ∧ wv p = false) ∨ (wv c = true ∧ wv p = true ∧ wv o = false) ∨ (wv c = true ∧ wv p = true ∧ wv o = true ∧ ((c.length : Int) != (o.length : Int)) = true) := by
  unfold dgOk at h
  cases h1 : wv c
  · exact .inl rfl
  · cases h2 : wv p
    · exact .inr (.inl ⟨rfl, rfl⟩)
    · rw [h1, h2, Bool.true_and, Bool.true_and] at h
      rcases g3_no h with h3 | ⟨_, h3⟩ | ⟨_, h3, h4⟩
      · cases h3
      · exact .inr (.inr (.inl ⟨rfl, rfl, h3⟩))
      · exact .inr (.inr (.inr ⟨rfl, rfl, h3, h4⟩))
theorem dgN_le (c p : List Nat) : dgN c p ≤ c.length + 1 := by unfold dgN; omega
theorem wpList_append_strD {ops : Array Oper} {rest : List Oper} {o : Oper} {a : Act} {Q : Exit → Act → World → Prop} (w : World) (hgd : o.guard = none) (s x : Operand)
    (ho : o.op = .call { callee := .builtin .append, args := #[s, x], argTypes := #[31, 31] }) (B : Nat) (v : Value) (n : Nat) (zs : List ByteArray) (z : ByteArray)
    (hown : w.ownsRow B 9 1 v n (scells zs)) (hs : a.eval s = v) (hx : a.eval x = .slice (some ⟨w.heap.size, 0, none⟩) 1 1) (hn : n ≤ 1000000) (hB : B ≤ w.heap.size)
    (h : ∀ v' w', w'.ownsRow B 9 1 v' (n + 1) (scells (zs ++ [z])) → Below B w w' → wpList Try.prog ops Q rest (a.put o.dst v') w') :
    wpList Try.prog ops Q (o :: rest) a (w.alloc (.cells #[.string z] 9)) := by
  obtain ⟨i0, hi, hz0, hz1, hz2⟩ := info_parts info_str
  refine wpList_append_own _ hgd s x 31 ho B 9 i0 (.string ByteArray.empty) 1 16 Try.underlying31 hi hz0 hz1 hz2 rfl (by decide) v n (scells zs) hs (hown.alloc _) ⟨w.heap.size, 0, none⟩ 1 1 [.string z] hx rfl ?_ ?_ ?_ ?_ ?_ ?_
  · intro j u hj
    match j, hj with
    | 0, hj =>
      simp at hj
      subst hj
      rw [show (⟨w.heap.size, 0, none⟩ : Addr).add 0 = ⟨w.heap.size, 0, none⟩ from rfl, World.cell?_alloc_mark]
      rfl
  · intro u hu
    simp at hu
    subst hu
    rfl
  · unfold maxLen; omega
  · omega
  · simp; omega
  · intro v' w' hown' hg _
    refine h v' w' (by simpa [scells] using hown') ?_
    refine Below.grown ((Below.refl _ _).alloc hB _) hg (by simp; omega) (fun k hk => ?_)
    exact (hown.lt k hk).1
theorem srow_next {w w' : World} {B n : Nat} {v : Value} {xs : List Value} {t : TypeId} (h : w.ownsRow B t 1 v n xs) (hb : Below w.heap.size w w') : w'.ownsRow B t 1 v n xs := by
  obtain ⟨hl, h⟩ := h
  refine ⟨hl, ?_⟩
  rcases h with h | ⟨g, cap, cur, hv, hB, hh, r⟩
  · exact .inl h
  · have hlt : g < w.heap.size := by
      rcases Nat.lt_or_ge g w.heap.size with h1 | h1
      · exact h1
      · rw [Array.getElem?_eq_none h1] at hh; cases hh
    exact .inr ⟨g, cap, cur, hv, hB, (hb.block g hlt).trans hh, r⟩
/-- A call returns a slice of strings. -/
def RetL (w : World) (ls : List (List Nat)) (e : Ending) (w' : World) : Prop := ∃ A n c zs, e = .returned (.slice A n c) ∧ zs.length = n ∧ zs.map nb = ls ∧ SOwn w' w.heap.size w'.heap.size A zs ∧ Below w.heap.size w w'
theorem srow_own {w : World} {B n : Nat} {v : Value} {zs : List ByteArray} (h : w.ownsRow B 9 1 v n (scells zs)) : ∃ A c, v = .slice A n c ∧ zs.length = n ∧ SOwn w B w.heap.size A zs := by
  obtain ⟨hl, h⟩ := h
  rw [scells_len, Nat.mul_one] at hl
  rcases h with ⟨rfl, rfl⟩ | ⟨g, cap, cur, rfl, hB, hh, hnc, hcm, hcs, ht⟩
  · exact ⟨none, 0, rfl, hl, .inl (List.eq_nil_of_length_eq_zero hl)⟩
  · have hb : Buf w g 9 (scells zs) := by
      refine ⟨cur, 0, 0, hh, .inl (Nat.le_refl _), fun j u hu => ?_⟩
      rw [← ht, List.getElem?_take] at hu
      split at hu
      · rw [← Array.getElem?_toList]; exact hu
      · cases hu
    exact ⟨_, cap, rfl, hl, .inr ⟨g, rfl, hB, hb.lt, hb⟩⟩
set_option maxHeartbeats 2000000 in
theorem impl_DragCrib (a p o : ByteArray) (w : World) (hma : a.size ≤ maxLen) (hmp : p.size ≤ maxLen) (hmo : o.size ≤ maxLen) :
    Calls Try.prog 30 #[.string a, .string p, .string o] w (RetL w (dg (nb a) (nb p) (nb o))) := by
  have hma' := hma
  have hmo' := hmo
  unfold maxLen at hma' hmo'
  cases h : dgOk (nb a) (nb p) (nb o)
  · have hr : dg (nb a) (nb p) (nb o) = [] := by rw [dg, h]; rfl
    rw [hr]
    clear hr
    rcases dgOk_no h with g1 | ⟨g1, g2⟩ | ⟨g1, g2, g3⟩ | ⟨g1, g2, g3, g4⟩
    · clear h
      go_enter Try.func30, Try.ntmps30
      go_wp2_with fail
      refine (impl_WordValid _ _ hma).mono ?_
      rintro e w' ⟨rfl, rfl⟩
      go_wp2_with fail
      go_ret
      exact ⟨none, 0, 0, [], rfl, rfl, rfl, .inl rfl, Below.refl _ _⟩
    · clear h
      go_enter Try.func30, Try.ntmps30
      go_wp2_with fail
      refine (impl_WordValid _ _ hma).mono ?_
      rintro e w' ⟨rfl, rfl⟩
      go_wp2_with fail
      refine (impl_WordValid _ _ hmp).mono ?_
      rintro e w' ⟨rfl, rfl⟩
      go_wp2_with fail
      go_ret
      exact ⟨none, 0, 0, [], rfl, rfl, rfl, .inl rfl, Below.refl _ _⟩
    · clear h
      go_enter Try.func30, Try.ntmps30
      go_wp2_with fail
      refine (impl_WordValid _ _ hma).mono ?_
      rintro e w' ⟨rfl, rfl⟩
      go_wp2_with fail
      refine (impl_WordValid _ _ hmp).mono ?_
      rintro e w' ⟨rfl, rfl⟩
      go_wp2_with fail
      refine (impl_WordValid _ _ hmo).mono ?_
      rintro e w' ⟨rfl, rfl⟩
      go_wp2_with fail
      go_ret
      exact ⟨none, 0, 0, [], rfl, rfl, rfl, .inl rfl, Below.refl _ _⟩
    · clear h
      rw [nb_length, nb_length] at g4
      go_enter Try.func30, Try.ntmps30
      go_wp2_with fail
      refine (impl_WordValid _ _ hma).mono ?_
      rintro e w' ⟨rfl, rfl⟩
      go_wp2_with fail
      refine (impl_WordValid _ _ hmp).mono ?_
      rintro e w' ⟨rfl, rfl⟩
      go_wp2_with fail
      refine (impl_WordValid _ _ hmo).mono ?_
      rintro e w' ⟨rfl, rfl⟩
      go_wp2_with fail
      go_ret
      exact ⟨none, 0, 0, [], rfl, rfl, rfl, .inl rfl, Below.refl _ _⟩
  · have hr : dg (nb a) (nb p) (nb o) = dgK (nb a) (nb p) (nb o) (dgN (nb a) (nb p)) := by rw [dg, h]; rfl
    rw [hr]
    clear hr
    obtain ⟨va, vp, vo, hao⟩ := dgOk_yes h
    have la := wv_len va
    have lp := wv_len vp
    rw [nb_length, nb_length] at hao
    rw [nb_length] at la lp
    have hne : ((a.size : Int) != (o.size : Int)) = false := ne_no hao
    have Hao := Lib.hid hao
    have hos : o.size ≤ a.size := by omega
    have has : a.size ≤ o.size := by omega
    have Hva := Lib.hid va
    have Hvo := Lib.hid vo
    have hnil := World.ownsRow_nil w w.heap.size 9 1
    have HdN : Hid (dgN (nb a) (nb p) = a.size + 1 - p.size) := by show _ = _; rw [dgN, nb_length, nb_length]
    clear h hao
    go_enter Try.func30, Try.ntmps30
    go_wp2_with fail
    refine (impl_WordValid _ _ hma).mono ?_
    rintro e w' ⟨rfl, rfl⟩
    go_wp2_with fail
    refine (impl_WordValid _ _ hmp).mono ?_
    rintro e w' ⟨rfl, rfl⟩
    go_wp2_with fail
    refine (impl_WordValid _ _ hmo).mono ?_
    rintro e w' ⟨rfl, rfl⟩
    go_wp2_with fail
    have Hnil := Lib.hid hnil
    clear hnil
    go_loopw [7, 8] (fun l i wr => ∃ (k : Nat) (zs : List ByteArray), k ≤ dgN (nb a) (nb p) ∧ i = .int .i64 k ∧ Hid (zs.map nb = dgK (nb a) (nb p) (nb o) k) ∧ Hid (wr.ownsRow w.heap.size 9 1 l k (scells zs)) ∧ Below w.heap.size w wr) (fun _ i _ => dgN (nb a) (nb p) - (intOf i).toNat)
    case atStart => exact ⟨0, [], Nat.zero_le _, rfl, rfl, Hnil.out, Below.refl _ _⟩
    case round =>
      obtain ⟨k, zs, hk, rfl, Hzs, Hrk, hbe⟩ := hrel
      clear Hnil
      rw [HdN.out] at hk
      by_cases hlt : k + p.size ≤ a.size
      · have hki : (k : Int) + (p.size : Int) ≤ (a.size : Int) := by omega
        have hki' : (k : Int) + (p.size : Int) ≤ (o.size : Int) := by omega
        have e1 : ((k : Int) + (p.size : Int)).toNat = k + p.size := by omega
        have Hsa : Hid (nb (a.extract k (k + p.size)) = seg (nb a) k (nb p).length) := by show _ = _; rw [nb_extract, nb_length, seg]
        have Hso : Hid (nb (o.extract k (k + p.size)) = seg (nb o) k (nb p).length) := by show _ = _; rw [nb_extract, nb_length, seg]
        have hla : k + (nb p).length ≤ (nb a).length := by rw [nb_length, nb_length]; exact hlt
        have hlo : k + (nb p).length ≤ (nb o).length := by rw [nb_length, nb_length]; omega
        have sla := seg_len hla
        have slo := seg_len hlo
        have Hcw1 : Hid (cwOk (nb (a.extract k (k + p.size))) (nb p) = true) := by
          show _ = _
          unfold cwOk g3
          rw [Hsa.out, wv_seg Hva.out hla, vp, sla]; simp
        have wv2 : wv (mixL 9 (seg (nb a) k (nb p).length) (nb p)) = true := wv_mixL (by rw [sla, nb_length]; exact lp) sla
        have Hcw2 : Hid (cwOk (nb (o.extract k (k + p.size))) (mixL 9 (seg (nb a) k (nb p).length) (nb p)) = true) := by
          show _ = _
          unfold cwOk g3
          rw [Hso.out, wv_seg Hvo.out hlo, wv2, slo, mixL_len sla]; simp
        have hxa : (a.extract k (k + p.size)).size ≤ maxLen := by rw [← nb_length, Hsa.out, sla, nb_length]; unfold maxLen; omega
        have hxo : (o.extract k (k + p.size)).size ≤ maxLen := by rw [← nb_length, Hso.out, slo, nb_length]; unfold maxLen; omega
        have Hkl : Hid ((mixL 9 (seg (nb a) k (nb p).length) (nb p)).length ≤ 200) := by show _ ≤ _; rw [mixL_len sla, nb_length]; exact lp
        clear hla hlo sla slo wv2
        go_wp2_with fail
        refine (impl_SubtractWords _ _ _ hxa hmp).mono ?_
        rw [cw, Hcw1.out, if_pos rfl, Hsa.out]
        rintro e v1 ⟨r1, rfl, hr1, hb1⟩
        have hm1 : r1.size ≤ maxLen := by rw [← nb_length, hr1]; have := Hkl.out; unfold maxLen; omega
        have Hr1 := Lib.hid hr1
        clear hr1
        go_wp2_with fail
        refine (impl_SubtractWords _ _ _ hxo hm1).mono ?_
        rw [Hr1.out, cw, Hcw2.out, if_pos rfl, Hso.out]
        rintro e v2 ⟨r2, rfl, hr2, hb2⟩
        have Hr2 : Hid (nb r2 = dgAt (nb a) (nb p) (nb o) k) := hr2
        have hbw := bthen (bthen hbe hb1) hb2
        have Hrk2 := Lib.hid (srow_next (srow_next Hrk.out hb1) hb2)
        clear hr2 hb1 hb2
        go_wp2_with (at_builtin; go_must (refine wpList_append_strD v2 rfl _ _ rfl w.heap.size _ _ _ r2 Hrk2.out rfl rfl (by omega) hbw.size ?_); intro v' w1' hown' hbel'; have Ho := Lib.hid hown'; clear hown')
        go_roundw
        case rel => exact ⟨k + 1, zs ++ [r2], by rw [HdN.out]; omega, by go_num, (show List.map nb (zs ++ [r2]) = _ by rw [List.map_append, Hzs.out, dgK_succ]; simp [Hr2.out]), Ho.out, hbw.trans hbel'⟩
        case measure => rw [HdN.out]; simp [intOf]; omega
      · have hkn : k = dgN (nb a) (nb p) := by rw [HdN.out]; omega
        have hki : ¬ (k : Int) + (p.size : Int) ≤ (a.size : Int) := by omega
        have Hkn := Lib.hid hkn
        obtain ⟨A, c, rfl, hl, hS⟩ := srow_own Hrk.out
        have Hl := Lib.hid hl
        have HS := Lib.hid hS
        clear hl hS hkn
        go_wp2_with fail
        go_ret
        rw [← Hkn.out]
        exact ⟨A, k, c, zs, rfl, Hl.out, Hzs.out, HS.out, hbe⟩
set_option maxHeartbeats 2000000 in
theorem spec_DragCrib (a p o : ByteArray) (w : World) (hma : a.size ≤ maxLen) (hmp : p.size ≤ maxLen) (hmo : o.size ≤ maxLen) :
    Calls Try.prog 29 #[.string a, .string p, .string o] w (RetL w (dg (nb a) (nb p) (nb o))) := by
  have hma' := hma
  have hmo' := hmo
  unfold maxLen at hma' hmo'
  have hbw0 : Below w.heap.size w (w.alloc (.cells #[] 9)) := (Below.refl _ _).alloc (Nat.le_refl _) _
  have hnil : (w.alloc (.cells #[] 9)).ownsRow w.heap.size 9 1 (.slice (some ⟨w.heap.size, 0, none⟩) 0 0) 0 (scells []) := World.ownsRow_lit w #[] 0 (Nat.le_refl _) (Nat.zero_le _) rfl
  have Hnil := Lib.hid hnil
  clear hnil
  cases h : dgOk (nb a) (nb p) (nb o)
  · have hr : dg (nb a) (nb p) (nb o) = [] := by rw [dg, h]; rfl
    rw [hr]
    clear hr
    rcases dgOk_no h with g1 | ⟨g1, g2⟩ | ⟨g1, g2, g3⟩ | ⟨g1, g2, g3, g4⟩
    · clear h
      go_enter Try.func29, Try.ntmps29
      go_wp2_with fail
      refine (spec_WordValid _ _ hma).mono ?_
      rintro e w' ⟨rfl, rfl⟩
      go_wp2_with fail
      go_ret
      exact ⟨_, 0, 0, [], rfl, rfl, rfl, .inl rfl, hbw0⟩
    · clear h
      go_enter Try.func29, Try.ntmps29
      go_wp2_with fail
      refine (spec_WordValid _ _ hma).mono ?_
      rintro e w' ⟨rfl, rfl⟩
      go_wp2_with fail
      refine (spec_WordValid _ _ hmp).mono ?_
      rintro e w' ⟨rfl, rfl⟩
      go_wp2_with fail
      go_ret
      exact ⟨_, 0, 0, [], rfl, rfl, rfl, .inl rfl, hbw0⟩
    · clear h
      go_enter Try.func29, Try.ntmps29
      go_wp2_with fail
      refine (spec_WordValid _ _ hma).mono ?_
      rintro e w' ⟨rfl, rfl⟩
      go_wp2_with fail
      refine (spec_WordValid _ _ hmp).mono ?_
      rintro e w' ⟨rfl, rfl⟩
      go_wp2_with fail
      refine (spec_WordValid _ _ hmo).mono ?_
      rintro e w' ⟨rfl, rfl⟩
      go_wp2_with fail
      go_ret
      exact ⟨_, 0, 0, [], rfl, rfl, rfl, .inl rfl, hbw0⟩
    · clear h
      rw [nb_length, nb_length] at g4
      go_enter Try.func29, Try.ntmps29
      go_wp2_with fail
      refine (spec_WordValid _ _ hma).mono ?_
      rintro e w' ⟨rfl, rfl⟩
      go_wp2_with fail
      refine (spec_WordValid _ _ hmp).mono ?_
      rintro e w' ⟨rfl, rfl⟩
      go_wp2_with fail
      refine (spec_WordValid _ _ hmo).mono ?_
      rintro e w' ⟨rfl, rfl⟩
      go_wp2_with fail
      go_ret
      exact ⟨_, 0, 0, [], rfl, rfl, rfl, .inl rfl, hbw0⟩
  · have hr : dg (nb a) (nb p) (nb o) = dgK (nb a) (nb p) (nb o) (dgN (nb a) (nb p)) := by rw [dg, h]; rfl
    rw [hr]
    clear hr
    obtain ⟨va, vp, vo, hao⟩ := dgOk_yes h
    have la := wv_len va
    have lp := wv_len vp
    rw [nb_length, nb_length] at hao
    rw [nb_length] at la lp
    have hne : ((a.size : Int) != (o.size : Int)) = false := ne_no hao
    have hos : o.size ≤ a.size := by omega
    have has : a.size ≤ o.size := by omega
    have Hva := Lib.hid va
    have Hvo := Lib.hid vo
    have Hvp := Lib.hid vp
    have HdN : Hid (dgN (nb a) (nb p) = a.size + 1 - p.size) := by show _ = _; rw [dgN, nb_length, nb_length]
    clear h hao
    go_enter Try.func29, Try.ntmps29
    go_wp2_with fail
    refine (spec_WordValid _ _ hma).mono ?_
    rintro e w' ⟨rfl, rfl⟩
    go_wp2_with fail
    refine (spec_WordValid _ _ hmp).mono ?_
    rintro e w' ⟨rfl, rfl⟩
    go_wp2_with fail
    refine (spec_WordValid _ _ hmo).mono ?_
    rintro e w' ⟨rfl, rfl⟩
    go_wp2_with fail
    go_loopw [7, 8] (fun l i wr => ∃ (k : Nat) (zs : List ByteArray), k ≤ dgN (nb a) (nb p) ∧ i = .int .i64 k ∧ Hid (zs.map nb = dgK (nb a) (nb p) (nb o) k) ∧ Hid (wr.ownsRow w.heap.size 9 1 l k (scells zs)) ∧ Below w.heap.size w wr) (fun _ i _ => dgN (nb a) (nb p) - (intOf i).toNat)
    case atStart => exact ⟨0, [], Nat.zero_le _, rfl, rfl, Hnil.out, hbw0⟩
    case round =>
      obtain ⟨k, zs, hk, rfl, Hzs, Hrk, hbe⟩ := hrel
      clear Hnil hbw0
      rw [HdN.out] at hk
      by_cases hlt : k + p.size ≤ a.size
      · have hki : (k : Int) + (p.size : Int) ≤ (a.size : Int) := by omega
        have hka : k ≤ a.size := by omega
        have hko : k ≤ o.size := by omega
        have Hsa : Hid (nb (a.extract k a.size) = (nb a).drop k) := by show _ = _; rw [nb_extract, ← nb_length a, List.take_length]
        have Hso : Hid (nb (o.extract k o.size) = (nb o).drop k) := by show _ = _; rw [nb_extract, ← nb_length o, List.take_length]
        have hla : k + (nb p).length ≤ (nb a).length := by rw [nb_length, nb_length]; exact hlt
        have hlo : k + (nb p).length ≤ (nb o).length := by rw [nb_length, nb_length]; omega
        have sla := seg_len hla
        have Hm1 := Lib.hid (minusL_seg Hva.out Hvp.out hla)
        have wv2 : wv (mixL 9 (seg (nb a) k (nb p).length) (nb p)) = true := wv_mixL (by rw [sla, nb_length]; exact lp) sla
        have hml : (mixL 9 (seg (nb a) k (nb p).length) (nb p)).length = (nb p).length := mixL_len sla
        have Hm2 : Hid (minusL ((nb o).drop k) (mixL 9 (seg (nb a) k (nb p).length) (nb p)) = dgAt (nb a) (nb p) (nb o) k) := by
          show _ = _
          have := minusL_seg (t := k) Hvo.out wv2 (by rw [hml]; exact hlo)
          rw [hml] at this
          exact this
        have Hml : Hid ((mixL 9 (seg (nb a) k (nb p).length) (nb p)).length = p.size) := by show _ = _; rw [hml, nb_length]
        have Hwv2 := Lib.hid wv2
        have Hda : Hid (∀ (j c : Nat), (nb (a.extract k a.size))[j]? = some c → 97 ≤ c ∧ c ≤ 106) := by
          intro j c hc
          rw [Hsa.out, List.getElem?_drop] at hc
          exact wv_at Hva.out hc
        have Hdo : Hid (∀ (j c : Nat), (nb (o.extract k o.size))[j]? = some c → 97 ≤ c ∧ c ≤ 106) := by
          intro j c hc
          rw [Hso.out, List.getElem?_drop] at hc
          exact wv_at Hvo.out hc
        have Hxa : Hid ((a.extract k a.size).size = a.size - k) := by show _ = _; rw [← nb_length, Hsa.out, List.length_drop, nb_length]
        have Hxo : Hid ((o.extract k o.size).size = o.size - k) := by show _ = _; rw [← nb_length, Hso.out, List.length_drop, nb_length]
        clear hla hlo sla wv2 hml
        go_wp2_with fail
        refine (spec_l18Minus _ _ _ Hda.out (fun _ _ hc => .inr (wv_at Hvp.out hc)) (by have := Hxa.out; omega) lp).mono ?_
        rw [Hsa.out, Hm1.out]
        rintro e v1 ⟨r1, rfl, hr1, hb1⟩
        have hs1 : r1.size = p.size := by rw [← nb_length, hr1, Hml.out]
        have Hs1 := Lib.hid hs1
        have Hr1 := Lib.hid hr1
        clear hr1 hs1
        go_wp2_with fail
        refine (spec_l18Minus _ _ _ Hdo.out (fun _ _ hc => .inr (wv_at (by rw [Hr1.out]; exact Hwv2.out) hc)) (by have := Hxo.out; have := Hs1.out; omega) (by have := Hs1.out; omega)).mono ?_
        rw [Hso.out, Hr1.out, Hm2.out]
        rintro e v2 ⟨r2, rfl, hr2, hb2⟩
        have Hr2 := Lib.hid hr2
        have hbw := bthen (bthen hbe hb1) hb2
        have Hrk2 := Lib.hid (srow_next (srow_next Hrk.out hb1) hb2)
        clear hr2 hb1 hb2
        go_wp2_with (at_builtin; go_must (refine wpList_append_strD v2 rfl _ _ rfl w.heap.size _ _ _ r2 Hrk2.out rfl rfl (by omega) hbw.size ?_); intro v' w1' hown' hbel'; have Ho := Lib.hid hown'; clear hown')
        go_roundw
        case rel => exact ⟨k + 1, zs ++ [r2], by rw [HdN.out]; omega, by go_num, (show List.map nb (zs ++ [r2]) = _ by rw [List.map_append, Hzs.out, dgK_succ]; simp [Hr2.out]), Ho.out, hbw.trans hbel'⟩
        case measure => rw [HdN.out]; simp [intOf]; omega
      · have hkn : k = dgN (nb a) (nb p) := by rw [HdN.out]; omega
        have hki : ¬ (k : Int) + (p.size : Int) ≤ (a.size : Int) := by omega
        have Hkn := Lib.hid hkn
        obtain ⟨A, c, rfl, hl, hS⟩ := srow_own Hrk.out
        have Hl := Lib.hid hl
        have HS := Lib.hid hS
        clear hl hS hkn
        go_wp2_with fail
        go_ret
        rw [← Hkn.out]
        exact ⟨A, k, c, zs, rfl, Hl.out, Hzs.out, HS.out, hbe⟩
end Go.Proofs.Ytilnffidckdadaa
