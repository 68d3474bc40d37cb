/- The copies, the sizes and the comparisons of machines. No condition. -/
import Derived.Test.YtchjhngfkngljaaTele5
set_option linter.unusedVariables false
namespace Go.Proofs.Ytchjhngfkngljaa
open Go.RowKit

def SzR (ss : List ByteArray) (L : Nat) (w : World) (e : Ending) (w' : World) : Prop :=
  w = w' ∧ (e = .returned (.int .i64 (-1)) ∨ ∃ r : Nat, e = .returned (.int .i64 (r : Int)) ∧ r ≤ L ∧ ss.length ≤ L)
set_option maxHeartbeats 400000 in
theorem laws_szStringS (A : Option Addr) (n c L : Nat) (ss : List ByteArray) (w : World) (h : Strs w A ss) (hn : ss.length = n) (hb : n ≤ 9223372036854775807) (hL : L ≤ 1048576) (hsm : smallS ss) :
    Calls Try.prog 9 #[.slice A n c, .int .i64 (L : Int)] w (SzR ss L w) := by
  have Hn := Lib.hid hn
  have H := Lib.hid h
  have Hsm := Lib.hid hsm
  clear hn h hsm
  by_cases hlt0 : L < n
  · go_enter Try.func9, Try.ntmps9
    go_wp2
    go_ret
    exact ⟨rfl, .inl rfl⟩
  · go_enter Try.func9, Try.ntmps9
    go_wp2
    go_loop [1, 5] (fun l i => ∃ (k r : Nat), k ≤ n ∧ r ≤ L ∧ i = .int .i64 k ∧ l = .int .i64 (r : Int)) (fun _ i => n - (intOf i).toNat)
    case atStart => exact ⟨0, L - n, Nat.zero_le _, by omega, rfl, by go_num⟩
    case round =>
      obtain ⟨k, r, hk, hr, rfl, rfl⟩ := hrel
      by_cases hlt : k < n
      · obtain ⟨s, hs⟩ := sget ss k (by rw [Hn.out]; exact hlt)
        have hss := Hsm.out.at_ hs
        unfold maxLen at hss
        obtain ⟨b, off, rfl, hbl, hc⟩ := H.out.at_ hs
        have Hs := Lib.hid hs
        clear hs
        by_cases hneg : r < s.size
        · go_wp2
          go_ret
          exact ⟨rfl, .inl rfl⟩
        · go_wp2
          go_round
          case rel => exact ⟨k + 1, r - s.size, by omega, by omega, by go_num, by go_num⟩
          case measure => simp [intOf]; omega
      · go_wp2
        go_ret
        exact ⟨rfl, .inr ⟨r, rfl, hr, by rw [Hn.out]; omega⟩⟩
def SzT (n m L : Nat) (w : World) (e : Ending) (w' : World) : Prop :=
  Below w.heap.size w w' ∧ (e = .returned (.int .i64 (-1)) ∨ ∃ r : Nat, e = .returned (.int .i64 (r : Int)) ∧ n ≤ L ∧ m ≤ L)
set_option maxHeartbeats 400000 in
theorem laws_szTele (A B : Option Addr) (n c m d L : Nat) (chi psi : List ByteArray) (mo : ByteArray) (w : World) (h : Mach w A n B m chi psi mo) (hL : L ≤ 1048576) :
    Calls Try.prog 4 #[.agg #[.slice A n c, .slice B m d, .string mo], .int .i64 (L : Int)] w (SzT n m L w) := by
  have H := Lib.hid (h.next (belA w (.cells #[.slice A n c, .slice B m d, .string mo] 24)))
  have HB := Lib.hid (belA w (.cells #[.slice A n c, .slice B m d, .string mo] 24))
  have hmm := h.mm
  unfold maxLen at hmm
  clear h
  go_enter Try.func4, Try.ntmps4
  go_wp2_with fail
  refine (laws_szStringS _ _ _ L _ _ H.out.sc H.out.lc H.out.bn hL H.out.mc).mono ?_
  rintro e v1 ⟨rfl, h1⟩
  rcases h1 with rfl | ⟨r, rfl, hr, hn⟩
  · go_wp2_with fail
    go_ret
    exact ⟨HB.out, .inl rfl⟩
  · go_wp2_with fail
    refine (laws_szStringS _ _ _ r _ _ H.out.sp H.out.lp H.out.bm (by omega) H.out.mp).mono ?_
    rintro e v1 ⟨rfl, h1⟩
    rcases h1 with rfl | ⟨r2, rfl, hr2, hm⟩
    · go_wp2_with fail
      go_ret
      exact ⟨HB.out, .inl rfl⟩
    · by_cases hneg : r2 < mo.size
      · go_wp2_with fail
        go_ret
        exact ⟨HB.out, .inl rfl⟩
      · go_wp2_with fail
        go_ret
        refine ⟨HB.out, .inr ⟨r2 - mo.size, by go_num, ?_, ?_⟩⟩
        · rw [← H.out.lc]; exact hn
        · rw [← H.out.lp]; omega
abbrev zcells : List Value := [.slice none 0 0, .slice none 0 0, .string ⟨#[]⟩]
abbrev world3 (w : World) (A : Option Addr) (n c : Nat) (B : Option Addr) (m d : Nat) (mo : ByteArray) : World :=
  ((w.alloc (.cells #[.slice A n c, .slice B m d, .string mo] 24)).alloc (.cells #[.slice none 0 0, .slice none 0 0, .string ⟨#[]⟩] 27)).alloc (.cells #[.slice none 0 0, .slice none 0 0, .string ⟨#[]⟩] 27)
theorem size_alloc (w : World) (o : Obj) : (w.alloc o).heap.size = w.heap.size + 1 := by simp
theorem world3_bel (w : World) (A : Option Addr) (n c : Nat) (B : Option Addr) (m d : Nat) (mo : ByteArray) : Below w.heap.size w (world3 w A n c B m d mo) :=
  (((Below.refl _ _).alloc (Nat.le_refl _) _).alloc (by rw [size_alloc]; omega) _).alloc (by rw [size_alloc, size_alloc]; omega) _
theorem zbox (w : World) : Buf (w.alloc (.cells #[.slice none 0 0, .slice none 0 0, .string ⟨#[]⟩] 27)) w.heap.size 27 zcells :=
  Buf.new w _ _ _ (fun j u hu => by simpa [zcells] using hu) 0 0 (.inl (Nat.le_refl _))
theorem world3_x (w : World) (A : Option Addr) (n c : Nat) (B : Option Addr) (m d : Nat) (mo : ByteArray) : Buf (world3 w A n c B m d mo) (w.heap.size + 1 + 1) 27 zcells := by
  have := zbox ((w.alloc (.cells #[.slice A n c, .slice B m d, .string mo] 24)).alloc (.cells #[.slice none 0 0, .slice none 0 0, .string ⟨#[]⟩] 27))
  rwa [size_alloc, size_alloc] at this
theorem world3_r (w : World) (A : Option Addr) (n c : Nat) (B : Option Addr) (m d : Nat) (mo : ByteArray) : Buf (world3 w A n c B m d mo) (w.heap.size + 1) 27 zcells := by
  have := zbox (w.alloc (.cells #[.slice A n c, .slice B m d, .string mo] 24))
  rw [size_alloc] at this
  exact this.alloc _
theorem lbox (w : World) (A : Option Addr) (n c : Nat) (B : Option Addr) (m d : Nat) (mo : ByteArray) : Buf (w.alloc (.cells #[.slice A n c, .slice B m d, .string mo] 24)) w.heap.size 24 (tcells A n c B m d mo) :=
  Buf.new w _ _ _ (fun j u hu => by simpa [tcells] using hu) 0 0 (.inl (Nat.le_refl _))
theorem world3_t (w : World) (A : Option Addr) (n c : Nat) (B : Option Addr) (m d : Nat) (mo : ByteArray) : Buf (world3 w A n c B m d mo) w.heap.size 24 (tcells A n c B m d mo) := ((lbox w A n c B m d mo).alloc _).alloc _
theorem laws_toStringS' (A : Option Addr) (n c : Nat) (zs : List ByteArray) (w : World) (h : Strs w A zs) (hn : zs.length = n) (hb : n ≤ 1048576) :
    Calls Try.prog 11 #[.slice A n c] w fun e w' => ∃ g, e = .returned (.slice (some ⟨g, 0, none⟩) n n) ∧ w.heap.size ≤ g ∧ Buf w' g 9 (scells zs) ∧ Below w.heap.size w w' :=
  (laws_toStringS A n c zs w h hn hb).mono fun e w' ⟨h1, h2, h3⟩ => ⟨_, h1, Nat.le_refl _, h2, h3⟩
set_option maxHeartbeats 400000 in
theorem laws_toTeleO (A B : Option Addr) (n c m d : Nat) (chi psi : List ByteArray) (mo : ByteArray) (w : World) (h : Mach w A n B m chi psi mo) (hn : n ≤ 1048576) (hm : m ≤ 1048576) :
    Calls Try.prog 6 #[.agg #[.slice A n c, .slice B m d, .string mo]] w fun e w' => ∃ A' B' mid, e = .returned (.agg #[.slice A' n n, .slice B' m m, .string mo]) ∧ SOwn w' w.heap.size mid A' chi ∧ SOwn w' mid w'.heap.size B' psi ∧ w.heap.size ≤ mid ∧ mid ≤ w'.heap.size ∧ Below w.heap.size w w' := by
  have H := Lib.hid h
  clear h
  have hb0 := world3_bel w A n c B m d mo
  have hx0 := world3_x w A n c B m d mo
  have hr0 := world3_r w A n c B m d mo
  have ht0 := world3_t w A n c B m d mo
  go_enter Try.func6, Try.ntmps6
  go_wp2_with fail
  refine (laws_toStringS' _ _ _ _ (world3 w A n c B m d mo) (H.out.sc.next hb0) H.out.lc hn).mono ?_
  rintro e v1 ⟨g, rfl, hg, hbuf1, hb1⟩
  have hg3 : w.heap.size + 1 + 1 < g := Nat.lt_of_lt_of_le hx0.lt hg
  have hB1 := bthen hb0 hb1
  have hx1 := hx0.next hb1
  have hr1 := hr0.next hb1
  have ht1 := ht0.next hb1
  clear hx0 hr0 ht0 hg
  have c0 : v1.cell? ⟨w.heap.size + 1 + 1, 0, none⟩ = some (.slice none 0 0) := hx1.cell (j := 0) rfl
  have f0 := hx1.free (j := 0) (by decide)
  have t1 : v1.cell? ⟨w.heap.size, 1, none⟩ = some (.slice B m d) := ht1.cell (j := 1) rfl
  have HB1 := Lib.hid (And.intro hB1 (And.intro hbuf1 (And.intro hx1 (And.intro hr1 ht1))))
  clear hB1 hbuf1 hx1 hr1 ht1
  go_wp2_with fail
  have hx2 := HB1.out.2.2.1.set 0 (.slice (some ⟨g, 0, none⟩) n n)
  have hr2 := HB1.out.2.2.2.1.far (p := ⟨w.heap.size + 1 + 1, 0, none⟩) (by show w.heap.size + 1 ≠ w.heap.size + 1 + 1; omega) (.slice (some ⟨g, 0, none⟩) n n)
  have ht2 := HB1.out.2.2.2.2.far (p := ⟨w.heap.size + 1 + 1, 0, none⟩) (by show w.heap.size ≠ w.heap.size + 1 + 1; omega) (.slice (some ⟨g, 0, none⟩) n n)
  have hu2 := HB1.out.2.1.far (p := ⟨w.heap.size + 1 + 1, 0, none⟩) (by show g ≠ w.heap.size + 1 + 1; omega) (.slice (some ⟨g, 0, none⟩) n n)
  have hB2 := HB1.out.1.setCell (p := ⟨w.heap.size + 1 + 1, 0, none⟩) (by show w.heap.size ≤ w.heap.size + 1 + 1; omega) (.slice (some ⟨g, 0, none⟩) n n)
  clear c0 f0 t1 HB1
  refine (laws_toStringS' _ _ _ _ _ (H.out.sp.next hB2) H.out.lp hm).mono ?_
  rintro e v2 ⟨g', rfl, hg', hbuf2, hb2⟩
  have hx3 := hx2.next hb2
  have hr3 := hr2.next hb2
  have ht3 := ht2.next hb2
  have hu3 := hu2.next hb2
  have hB3 := bthen hB2 hb2
  have hgg : w.heap.size + 1 + 1 < g' := Nat.lt_of_lt_of_le hx2.lt hg'
  have hgq : g + 1 ≤ g' := Nat.lt_of_lt_of_le hu2.lt hg'
  clear hx2 hr2 ht2 hu2 hB2 hg' hb2
  have c1 : v2.cell? ⟨w.heap.size + 1 + 1, 1, none⟩ = some (.slice none 0 0) := hx3.cell (j := 1) rfl
  have f1 := hx3.free (j := 1) (by simp)
  have n1 : w.heap.size ≠ w.heap.size + 1 + 1 := by omega
  have n2 : w.heap.size + 1 ≠ w.heap.size + 1 + 1 := by omega
  have n3 : g ≠ w.heap.size + 1 + 1 := by omega
  have n4 : g' ≠ w.heap.size + 1 + 1 := by omega
  have hx4 := hx3.set 1 (.slice (some ⟨g', 0, none⟩) m m)
  have ht4 := ht3.far (p := ⟨w.heap.size + 1 + 1, 1, none⟩) n1 (.slice (some ⟨g', 0, none⟩) m m)
  have hr4 := hr3.far (p := ⟨w.heap.size + 1 + 1, 1, none⟩) n2 (.slice (some ⟨g', 0, none⟩) m m)
  have hu4 := hu3.far (p := ⟨w.heap.size + 1 + 1, 1, none⟩) n3 (.slice (some ⟨g', 0, none⟩) m m)
  have hv4 := hbuf2.far (p := ⟨w.heap.size + 1 + 1, 1, none⟩) n4 (.slice (some ⟨g', 0, none⟩) m m)
  have hB4 := hB3.setCell (p := ⟨w.heap.size + 1 + 1, 1, none⟩) (by show w.heap.size ≤ w.heap.size + 1 + 1; omega) (.slice (some ⟨g', 0, none⟩) m m)
  have c2 := hx4.cell (j := 2) rfl
  have f2 := hx4.free (j := 2) (by simp)
  have t2 := ht4.cell (j := 2) rfl
  have hx5 := hx4.set 2 (.string mo)
  have hr5 := hr4.far (p := ⟨w.heap.size + 1 + 1, 2, none⟩) n2 (.string mo)
  have hu5 := hu4.far (p := ⟨w.heap.size + 1 + 1, 2, none⟩) n3 (.string mo)
  have hv5 := hv4.far (p := ⟨w.heap.size + 1 + 1, 2, none⟩) n4 (.string mo)
  have hB5 := hB4.setCell (p := ⟨w.heap.size + 1 + 1, 2, none⟩) (by show w.heap.size ≤ w.heap.size + 1 + 1; omega) (.string mo)
  have q0 := hx5.cell (j := 0) rfl
  have q1 := hx5.cell (j := 1) rfl
  have q2 := hx5.cell (j := 2) rfl
  have r0 := hr5.cell (j := 0) rfl
  have r1 := hr5.cell (j := 1) rfl
  have r2 := hr5.cell (j := 2) rfl
  have s0 := hr5.free (j := 0) (by simp)
  have s1 := hr5.free (j := 1) (by simp)
  have s2 := hr5.free (j := 2) (by simp)
  have HF := Lib.hid (And.intro hr5 (And.intro hu5 (And.intro hv5 hB5)))
  clear hx3 hr3 ht3 hu3 hbuf2 hB3 hx4 ht4 hr4 hu4 hv4 hB4 hx5 hr5 hu5 hv5 hB5
  go_wp2_with fail
  clear q0 q1 q2 r0 r1 r2 s0 s1 s2 c1 f1 c2 f2 t2
  obtain ⟨hr5, hu5, hv5, hB5⟩ := HF.out
  clear HF
  have m3 : g ≠ w.heap.size + 1 := by omega
  have m4 : g' ≠ w.heap.size + 1 := by omega
  have hr6 := ((hr5.set 0 (.slice (some ⟨g, 0, none⟩) n n)).set 1 (.slice (some ⟨g', 0, none⟩) m m)).set 2 (.string mo)
  have hu6 := ((hu5.far (p := ⟨w.heap.size + 1, 0, none⟩) m3 (.slice (some ⟨g, 0, none⟩) n n)).far (p := ⟨w.heap.size + 1, 1, none⟩) m3 (.slice (some ⟨g', 0, none⟩) m m)).far (p := ⟨w.heap.size + 1, 2, none⟩) m3 (.string mo)
  have hv6 := ((hv5.far (p := ⟨w.heap.size + 1, 0, none⟩) m4 (.slice (some ⟨g, 0, none⟩) n n)).far (p := ⟨w.heap.size + 1, 1, none⟩) m4 (.slice (some ⟨g', 0, none⟩) m m)).far (p := ⟨w.heap.size + 1, 2, none⟩) m4 (.string mo)
  have hB6 := ((hB5.setCell (p := ⟨w.heap.size + 1, 0, none⟩) (by show w.heap.size ≤ w.heap.size + 1; omega) (.slice (some ⟨g, 0, none⟩) n n)).setCell (p := ⟨w.heap.size + 1, 1, none⟩) (by show w.heap.size ≤ w.heap.size + 1; omega) (.slice (some ⟨g', 0, none⟩) m m)).setCell (p := ⟨w.heap.size + 1, 2, none⟩) (by show w.heap.size ≤ w.heap.size + 1; omega) (.string mo)
  have p0 := hr6.cell (j := 0) rfl
  have p1 := hr6.cell (j := 1) rfl
  have p2 := hr6.cell (j := 2) rfl
  refine bodyPost_ret (v := .agg #[.slice (some ⟨g, 0, none⟩) n n, .slice (some ⟨g', 0, none⟩) m m, .string mo]) (by simp [results, Try.results6, go_sem, p0, p1, p2]) rfl ⟨_, _, g + 1, rfl, .inr ⟨g, rfl, by omega, Nat.lt_succ_self _, hu6⟩, .inr ⟨g', rfl, hgq, hv6.lt, hv6⟩, by omega, Nat.le_trans hgq (Nat.le_of_lt hv6.lt), hB6⟩
theorem laws_toTele (A B : Option Addr) (n c m d : Nat) (chi psi : List ByteArray) (mo : ByteArray) (w : World) (h : Mach w A n B m chi psi mo) (hn : n ≤ 1048576) (hm : m ≤ 1048576) :
    Calls Try.prog 6 #[.agg #[.slice A n c, .slice B m d, .string mo]] w fun e w' => ∃ A' B', e = .returned (.agg #[.slice A' n n, .slice B' m m, .string mo]) ∧ Mach w' A' n B' m chi psi mo ∧ Below w.heap.size w w' :=
  (laws_toTeleO A B n c m d chi psi mo w h hn hm).mono fun e w' ⟨A', B', mid, he, h1, h2, _, _, hb⟩ => ⟨A', B', he, ⟨h1.strs, h2.strs, h.lc, h.lp, h.bn, h.bm, h.mc, h.mp, h.mm⟩, hb⟩
end Go.Proofs.Ytchjhngfkngljaa
