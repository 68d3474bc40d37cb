/- A string is cut at a letter: the library and the reference return what the plain function says. No condition. -/
import Derived.Test.YtchjhngfkngljaaDoorStrs
import Derived.Test.YtchjhngfkngljaaDoorShelf
import Derived.Laws.BytesArg
set_option linter.unusedVariables false
namespace Go.Proofs.YtchjhngfkngljaaDoor
open Go.RowKit

/-- Letters ahead of the first piece. -/
def pre (cur : List Nat) : List (List Nat) → List (List Nat)
  | [] => [cur]
  | p :: r => (cur ++ p) :: r
/-- The pieces of a word between a letter's places. -/
def cutK (c : Nat) : List Nat → List (List Nat)
  | [] => [[]]
  | x :: l => if x = c then [] :: cutK c l else pre [x] (cutK c l)
theorem cutK_ne (c : Nat) (l : List Nat) : cutK c l ≠ [] := by
  cases l with
  | nil => simp [cutK]
  | cons x l =>
    rw [cutK]
    split
    · simp
    · cases cutK c l <;> simp [pre]
theorem pre_nil {ps : List (List Nat)} (h : ps ≠ []) : pre [] ps = ps := by
  cases ps with
  | nil => exact absurd rfl h
  | cons p r => rfl
theorem pre_pre (a b : List Nat) (ps : List (List Nat)) : pre a (pre b ps) = pre (a ++ b) ps := by
  cases ps with
  | nil => rfl
  | cons p r => simp [pre]
theorem cut_hit {c : Nat} (l : List Nat) : cutK c (c :: l) = [] :: cutK c l := by rw [cutK, if_pos rfl]
theorem cut_miss {c x : Nat} (l : List Nat) (h : x ≠ c) : cutK c (x :: l) = pre [x] (cutK c l) := by rw [cutK, if_neg h]
theorem cut_piece {c : Nat} : ∀ {p : List Nat}, (∀ x ∈ p, x ≠ c) → cutK c p = [p]
  | [], _ => rfl
  | x :: p, h => by
    rw [cut_miss p (h x (by simp)), cut_piece (fun y hy => h y (by simp [hy]))]
    rfl
theorem cut_app {c : Nat} (r : List Nat) : ∀ {p : List Nat}, (∀ x ∈ p, x ≠ c) → cutK c (p ++ c :: r) = p :: cutK c r
  | [], _ => cut_hit r
  | x :: p, h => by
    rw [List.cons_append, cut_miss _ (h x (by simp)), cut_app r (fun y hy => h y (by simp [hy]))]
    rfl
/-- Pieces with a letter between them. -/
def joinN (c : Nat) : List (List Nat) → List Nat
  | [] => []
  | [p] => p
  | p :: q :: r => p ++ c :: joinN c (q :: r)
theorem join_cons {c : Nat} (p : List Nat) {ps : List (List Nat)} (h : ps ≠ []) : joinN c (p :: ps) = p ++ c :: joinN c ps := by
  cases ps with
  | nil => exact absurd rfl h
  | cons q r => rfl
theorem join_pre (c x : Nat) {ps : List (List Nat)} (h : ps ≠ []) : joinN c (pre [x] ps) = x :: joinN c ps := by
  match ps, h with
  | [p], _ => rfl
  | p :: q :: r, _ => rfl
theorem join_cut (c : Nat) : ∀ (l : List Nat), joinN c (cutK c l) = l
  | [] => rfl
  | x :: l => by
    by_cases h : x = c
    · subst h
      rw [cut_hit, join_cons _ (cutK_ne _ _), join_cut]
      rfl
    · rw [cut_miss l h, join_pre c x (cutK_ne _ _), join_cut]

/-! The library's words. -/
theorem index_one (b c : UInt8) (l : List UInt8) : Lib.index (b :: l) [c] = if c == b then 0 else if Lib.index l [c] == -1 then -1 else Lib.index l [c] + 1 := by
  rw [Lib.index]
  simp [List.isPrefixOf]
theorem index_no {c : UInt8} : ∀ {l : List UInt8}, Lib.index l [c] = -1 → ∀ x ∈ l, x ≠ c
  | [], _ => by intro x hx; cases hx
  | b :: l, h => by
    rw [index_one] at h
    by_cases hb : (c == b) = true
    · rw [if_pos hb] at h; cases h
    · rw [if_neg hb] at h
      have hb' : b ≠ c := fun e => hb (by rw [e]; simp)
      by_cases hl : Lib.index l [c] = -1
      · intro x hx
        rcases List.mem_cons.1 hx with rfl | hx
        · exact hb'
        · exact index_no hl x hx
      · rw [if_neg (by simpa using hl)] at h
        have := Lib.index_ge l [c]
        omega
theorem index_at {c : UInt8} : ∀ {l : List UInt8} {i : Nat}, Lib.index l [c] = (i : Int) → l = l.take i ++ c :: l.drop (i + 1) ∧ ∀ x ∈ l.take i, x ≠ c
  | [], i, h => by
    have e : Lib.index [] [c] = -1 := rfl
    rw [e] at h
    omega
  | b :: l, i, h => by
    rw [index_one] at h
    by_cases hb : (c == b) = true
    · rw [if_pos hb] at h
      obtain rfl : i = 0 := by omega
      have : c = b := by simpa using hb
      subst this
      exact ⟨rfl, by intro x hx; cases hx⟩
    · rw [if_neg hb] at h
      have hb' : b ≠ c := fun e => hb (by rw [e]; simp)
      by_cases hl : Lib.index l [c] = -1
      · rw [if_pos (by simpa using hl)] at h; omega
      · rw [if_neg (by simpa using hl)] at h
        have hg := Lib.index_ge l [c]
        obtain ⟨j, hj⟩ : ∃ j : Nat, Lib.index l [c] = (j : Int) := ⟨(Lib.index l [c]).toNat, by omega⟩
        obtain rfl : i = j + 1 := by omega
        obtain ⟨h1, h2⟩ := index_at hj
        refine ⟨by rw [List.take_succ_cons, List.drop_succ_cons, List.cons_append, ← h1], fun x hx => ?_⟩
        rw [List.take_succ_cons] at hx
        rcases List.mem_cons.1 hx with rfl | hx
        · exact hb'
        · exact h2 x hx
theorem nums_ne {c : UInt8} {l : List UInt8} (h : ∀ x ∈ l, x ≠ c) : ∀ x ∈ l.map UInt8.toNat, x ≠ c.toNat := by
  intro x hx
  obtain ⟨y, hy, rfl⟩ := List.mem_map.1 hx
  exact fun e => h y hy (UInt8.toNat_inj.1 e)
theorem split_cut (c : UInt8) : ∀ (k : Nat) (l : List UInt8), Lib.count l [c] = k → (Lib.splitK [c] 0 k l).map (List.map UInt8.toNat) = cutK c.toNat (l.map UInt8.toNat) ∧ (Lib.splitK [c] 0 k l).length = k + 1
  | 0, l, h => by
    have hm : Lib.index l [c] = -1 := by
      by_cases hm : Lib.index l [c] = -1
      · exact hm
      · have hg := Lib.index_ge l [c]
        have := Lib.count_hit (i := (Lib.index l [c]).toNat) (s := l) (sub := [c]) (by simp) (by omega)
        omega
    rw [Lib.splitK]
    exact ⟨(cut_piece (nums_ne (index_no hm))).symm, rfl⟩
  | k + 1, l, h => by
    have hm : Lib.index l [c] ≠ -1 := fun e => by rw [Lib.count_miss e] at h; cases h
    have hg := Lib.index_ge l [c]
    obtain ⟨i, hi⟩ : ∃ i : Nat, Lib.index l [c] = (i : Int) := ⟨(Lib.index l [c]).toNat, by omega⟩
    have hc := Lib.count_hit (s := l) (sub := [c]) (by simp) hi
    obtain ⟨h1, h2⟩ := index_at hi
    obtain ⟨h3, h4⟩ := split_cut c k (l.drop (i + 1)) (by
      have : (l.drop (i + [c].length)) = l.drop (i + 1) := rfl
      rw [this] at hc
      omega)
    rw [Lib.splitK, if_neg (by simpa using hm), hi]
    have e : ((i : Int)).toNat = i := rfl
    rw [e]
    refine ⟨?_, by rw [List.length_cons]; show (Lib.splitK [c] 0 k (l.drop (i + 1))).length + 1 = _; rw [h4]⟩
    rw [List.map_cons]
    show List.map UInt8.toNat (l.take i) :: List.map (List.map UInt8.toNat) (Lib.splitK [c] 0 k (l.drop (i + 1))) = _
    rw [h3]
    conv => rhs; rw [h1]
    rw [List.map_append, List.map_cons, cut_app _ (nums_ne h2)]
theorem splitB_cut (s : ByteArray) (c : UInt8) : (Lib.splitB ⟨#[c]⟩ 0 (Lib.countB s ⟨#[c]⟩) s).map nb = cutK c.toNat (nb s) ∧ (Lib.splitB ⟨#[c]⟩ 0 (Lib.countB s ⟨#[c]⟩) s).length = Lib.countB s ⟨#[c]⟩ + 1 := by
  obtain ⟨h1, h2⟩ := split_cut c _ s.data.toList rfl
  have hd := Lib.splitB_data ⟨#[c]⟩ 0 (Lib.countB s ⟨#[c]⟩) s
  have e : nb = List.map UInt8.toNat ∘ (fun b : ByteArray => b.data.toList) := rfl
  refine ⟨?_, ?_⟩
  · rw [e, ← List.map_map, hd]
    exact h1
  · rw [← h2]
    have := congrArg List.length hd
    rw [List.length_map] at this
    exact this
/-- A call returns the pieces, in a row of its own. -/
def CutP (w : World) (s : ByteArray) (c : Nat) (e : Ending) (w' : World) : Prop :=
  ∃ A cap zs, e = .returned (.slice A zs.length cap) ∧ zs.map nb = cutK c (nb s) ∧ SOwn w' w.heap.size w'.heap.size A zs ∧ zs.length ≤ cap ∧ Below w.heap.size w w'
/-- strings.Split at one letter. -/
theorem lib_Split (s : ByteArray) (c : UInt8) (m : Int) (w : World) (hs : s.size ≤ 1048576) (hm : w.cell? ⟨0, 0, none⟩ = some (.int .i64 m)) :
    Calls Tryd.prog 21 #[.string s, .string ⟨#[c]⟩] w (CutP w s c.toNat) := by
  refine (Tryd.strings_Split s ⟨#[c]⟩ m w (by omega) hm (Nat.le_refl _)).mono ?_
  rintro e w' ⟨rfl, rfl⟩
  obtain ⟨h1, h2⟩ := splitB_cut s c
  refine ⟨_, _, _, by rw [h2], h1, .inr ⟨w.heap.size, rfl, Nat.le_refl _, by simp, Buf.new w _ _ _ (fun j u hu => by simpa [scells] using hu) 0 0 (.inl (Nat.le_refl _))⟩, Nat.le_of_eq h2, (Below.refl _ _).alloc (Nat.le_refl _) _⟩

theorem wpList_append_strD {ops : Array Oper} {rest : List Oper} {o : Oper} {a : Act} {Q : Exit → Act → World → Prop} (w : World) (hgd : o.guard = none) (s x : Operand)
    (ho : o.op = .call { callee := .builtin .append, args := #[s, x], argTypes := #[23, 23] }) (B : Nat) (v : Value) (n : Nat) (zs : List ByteArray) (z : ByteArray)
    (hown : w.ownsRow B 9 1 v n (scells zs)) (hs : a.eval s = v) (hx : a.eval x = .slice (some ⟨w.heap.size, 0, none⟩) 1 1) (hn : n ≤ 4000000) (hB : B ≤ w.heap.size)
    (h : ∀ v' w', w'.ownsRow B 9 1 v' (n + 1) (scells (zs ++ [z])) → Below B w w' → wpList Tryd.prog ops Q rest (a.put o.dst v') w') :
    wpList Tryd.prog ops Q (o :: rest) a (w.alloc (.cells #[.string z] 9)) := by
  obtain ⟨i0, hi, hz0, hz1, hz2⟩ := info_parts info_str
  refine wpList_append_own _ hgd s x 23 ho B 9 i0 (.string ByteArray.empty) 1 16 Tryd.underlying23 hi hz0 hz1 hz2 rfl (by decide) v n (scells zs) hs (hown.alloc _) ⟨w.heap.size, 0, none⟩ 1 1 [.string z] hx rfl ?_ ?_ ?_ ?_ ?_ ?_
  · intro j u hj
    match j, hj with
    | 0, hj =>
      simp at hj
      subst hj
      rw [show (⟨w.heap.size, 0, none⟩ : Addr).add 0 = ⟨w.heap.size, 0, none⟩ from rfl, World.cell?_alloc_mark]
      rfl
  · intro u hu
    simp at hu
    subst hu
    rfl
  · unfold maxLen; omega
  · omega
  · simp; omega
  · intro v' w' hown' hg _
    refine h v' w' (by simpa [scells] using hown') ?_
    refine Below.grown ((Below.refl _ _).alloc hB _) hg (by simp; omega) (fun k hk => ?_)
    exact (hown.lt k hk).1
theorem row_strsD {w : World} {B n : Nat} {v : Value} {zs : List ByteArray} (h : w.ownsRow B 9 1 v n (scells zs)) : ∃ A c, v = .slice A n c ∧ zs.length = n ∧ SOwn w B w.heap.size A zs ∧ n ≤ c := by
  obtain ⟨hl, h⟩ := h
  rw [scells_len, Nat.mul_one] at hl
  rcases h with ⟨rfl, rfl⟩ | ⟨g, cap, cur, rfl, hB, hh, hnc, hcm, hcs, ht⟩
  · exact ⟨none, 0, rfl, hl, .inl (List.eq_nil_of_length_eq_zero hl), Nat.le_refl _⟩
  · have hlt : g < w.heap.size := by
      rcases Nat.lt_or_ge g w.heap.size with h1 | h1
      · exact h1
      · rw [Array.getElem?_eq_none h1] at hh; cases hh
    refine ⟨_, cap, rfl, hl, .inr ⟨g, rfl, hB, hlt, ⟨cur, 0, 0, hh, .inl (Nat.le_refl _), fun j u hu => ?_⟩⟩, hnc⟩
    rw [← ht, List.getElem?_take] at hu
    split at hu
    · rw [← Array.getElem?_toList]; exact hu
    · cases hu
/-- What the reference's loop keeps. -/
def CutInv (l : List Nat) (c j f : Nat) (zs : List ByteArray) : Prop :=
  (j ≤ l.length ∧ cutK c l = zs.map nb ++ pre ((l.take j).drop f) (cutK c (l.drop j))) ∨ (j = l.length + 1 ∧ cutK c l = zs.map nb)
theorem cutInv_start (l : List Nat) (c : Nat) : CutInv l c 0 0 [] := .inl ⟨Nat.zero_le _, by simp [pre_nil (cutK_ne c l)]⟩
theorem cutInv_hit {l : List Nat} {c j f : Nat} {zs : List ByteArray} {z : ByteArray} (h : CutInv l c j f zs) (hx : l[j]? = some c) (hz : nb z = (l.take j).drop f) : CutInv l c (j + 1) (j + 1) (zs ++ [z]) := by
  have hj : j < l.length := (List.getElem?_eq_some_iff.1 hx).1
  have hd : l.drop j = c :: l.drop (j + 1) := by
    rw [List.drop_eq_getElem_cons hj]
    congr 1
    exact (List.getElem?_eq_some_iff.1 hx).2
  rcases h with ⟨_, h⟩ | ⟨h, _⟩
  · refine .inl ⟨hj, ?_⟩
    rw [h, hd, cut_hit, List.map_append, List.append_assoc]
    congr 1
    have e : (l.take (j + 1)).drop (j + 1) = [] := List.drop_eq_nil_of_le (by rw [List.length_take]; omega)
    rw [e, pre_nil (cutK_ne _ _)]
    simp [pre, hz]
  · omega
theorem cutInv_miss {l : List Nat} {c j f x : Nat} {zs : List ByteArray} (h : CutInv l c j f zs) (hf : f ≤ j) (hx : l[j]? = some x) (hc : x ≠ c) : CutInv l c (j + 1) f zs := by
  have hj : j < l.length := (List.getElem?_eq_some_iff.1 hx).1
  have hd : l.drop j = x :: l.drop (j + 1) := by
    rw [List.drop_eq_getElem_cons hj]
    congr 1
    exact (List.getElem?_eq_some_iff.1 hx).2
  have ht : (l.take (j + 1)).drop f = (l.take j).drop f ++ [x] := by
    rw [List.take_add_one, hx, List.drop_append_of_le_length (by rw [List.length_take]; omega)]
    rfl
  rcases h with ⟨_, h⟩ | ⟨h, _⟩
  · refine .inl ⟨hj, ?_⟩
    rw [h, hd, cut_miss _ hc, pre_pre, ht]
  · omega
theorem cutInv_last {l : List Nat} {c f : Nat} {zs : List ByteArray} {z : ByteArray} (h : CutInv l c l.length f zs) (hz : nb z = l.drop f) : CutInv l c (l.length + 1) (l.length + 1) (zs ++ [z]) := by
  rcases h with ⟨_, h⟩ | ⟨h, _⟩
  · refine .inr ⟨rfl, ?_⟩
    rw [h, List.drop_length, List.take_length, List.map_append, ← hz]
    simp [cutK, pre]
  · omega
theorem cutInv_end {l : List Nat} {c f : Nat} {zs : List ByteArray} (h : CutInv l c (l.length + 1) f zs) : zs.map nb = cutK c l := by
  rcases h with ⟨h, _⟩ | ⟨_, h⟩
  · omega
  · exact h.symm
set_option maxHeartbeats 1000000 in
theorem spec_l21Cut (s : ByteArray) (c : Nat) (w : World) (hs : s.size ≤ 1048576) :
    Calls Tryd.prog 26 #[.string s, .int .u8 (c : Int)] w (CutP w s c) := by
  have Hnl := Lib.hid (nb_length s)
  have hnil : (w.alloc (.cells #[] 9)).ownsRow w.heap.size 9 1 (.slice (some ⟨w.heap.size, 0, none⟩) 0 0) 0 (scells []) := World.ownsRow_made w #[] 0 (Nat.le_refl _) (by unfold maxLen; omega) rfl
  have hb0 : Below w.heap.size w (w.alloc (.cells #[] 9)) := (Below.refl _ _).alloc (Nat.le_refl _) _
  go_enter Tryd.func26, Tryd.ntmps26
  go_wp2_with fail
  go_loopw [5, 6, 7] (fun o f i wr => ∃ (j k : Nat) (zs : List ByteArray), i = .int .i64 j ∧ f = .int .i64 k ∧ j ≤ s.size + 1 ∧ k ≤ j ∧ zs.length ≤ j ∧ Hid (CutInv (nb s) c j k zs) ∧ Hid (wr.ownsRow w.heap.size 9 1 o zs.length (scells zs)) ∧ Below w.heap.size w wr) (fun _ _ i _ => s.size + 1 - (intOf i).toNat)
  case atStart => exact ⟨0, 0, [], rfl, rfl, by omega, Nat.le_refl _, Nat.le_refl _, cutInv_start _ _, hnil, hb0⟩
  case round =>
    obtain ⟨j, k, zs, rfl, rfl, hj, hk, hz, Hi, Hr, hbe⟩ := hrel
    clear hnil hb0
    have hbs := hbe.size
    by_cases hlt : j < s.size
    · obtain ⟨x, hx⟩ : ∃ x, (nb s)[j]? = some x := ⟨_, nb_get? s j hlt⟩
      have hxk : s[j].toNat = x := by have := nb_get? s j hlt; rw [hx] at this; injection this with this; exact this.symm
      have Hx := Lib.hid hx
      clear hx
      by_cases hc : x = c
      · subst hc
        have Hz : Hid (nb (s.extract k j) = ((nb s).take j).drop k) := nb_extract s k j
        go_wp2_with (at_builtin; go_must (refine wpList_append_strD wr rfl _ _ rfl w.heap.size _ _ _ (s.extract k j) Hr.out rfl rfl (by omega) hbs ?_); intro v' w1' hown' hbel'; have Ho := Lib.hid hown'; clear hown')
        go_roundw
        case rel => exact ⟨j + 1, j + 1, zs ++ [s.extract k j], by go_num, by go_num, by omega, Nat.le_refl _, by rw [List.length_append]; simpa using hz, cutInv_hit Hi.out Hx.out Hz.out, (show World.ownsRow _ _ _ _ _ _ _ by rw [List.length_append]; exact Ho.out), hbe.trans hbel'⟩
        case measure => simp [intOf]; omega
      · have hc1 : ((x : Int) == (c : Int)) = false := by rw [beq_eq_false_iff_ne]; omega
        have Hc := Lib.hid hc
        clear hc
        go_wp2_with fail
        go_roundw
        case rel => exact ⟨j + 1, k, zs, by go_num, rfl, by omega, by omega, by omega, cutInv_miss Hi.out hk Hx.out Hc.out, Hr.out, hbe⟩
        case measure => simp [intOf]; omega
    · by_cases he : j = s.size
      · subst he
        have Hz : Hid (nb (s.extract k s.size) = (nb s).drop k) := (nb_extract s k s.size).trans (by rw [List.take_of_length_le (by rw [nb_length]; exact Nat.le_refl _)])
        have Hi2 : Hid (CutInv (nb s) c (nb s).length k zs) := Hnl.out ▸ Hi.out
        go_wp2_with (at_builtin; go_must (refine wpList_append_strD wr rfl _ _ rfl w.heap.size _ _ _ (s.extract k s.size) Hr.out rfl rfl (by omega) hbs ?_); intro v' w1' hown' hbel'; have Ho := Lib.hid hown'; clear hown')
        go_roundw
        case rel => exact ⟨s.size + 1, s.size + 1, zs ++ [s.extract k s.size], by go_num, by go_num, by omega, Nat.le_refl _, by rw [List.length_append]; simpa using hz, (show CutInv _ _ _ _ _ by have h := cutInv_last Hi2.out Hz.out; rw [Hnl.out] at h; exact h), (show World.ownsRow _ _ _ _ _ _ _ by rw [List.length_append]; exact Ho.out), hbe.trans hbel'⟩
        case measure => simp [intOf]
      · obtain rfl : j = s.size + 1 := by omega
        obtain ⟨A, cap, rfl, hl, hS, hcap⟩ := row_strsD Hr.out
        have HS := Lib.hid hS
        have Hi2 : Hid (CutInv (nb s) c ((nb s).length + 1) k zs) := Hnl.out.symm ▸ Hi.out
        clear hS hl
        go_wp2_with fail
        go_ret
        exact ⟨A, cap, zs, rfl, cutInv_end Hi2.out, HS.out, hcap, hbe⟩
end Go.Proofs.YtchjhngfkngljaaDoor
