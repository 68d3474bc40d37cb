/- The text of a machine: both programs return what the plain function says. No condition. -/
import Derived.Test.YtchjhngfkngljaaDoorTele3
import Derived.Test.YtchjhngfkngljaaDoorShelf
import Derived.Test.YtchjhngfkngljaaDoorRegG
import Derived.BigQuiet
import Derived.Deep.QuietTactic
set_option linter.unusedVariables false
namespace Go.Proofs.YtchjhngfkngljaaDoor
open Go.RowKit

def j3 : List ByteArray → List Nat
  | [x, y, z] => nb x ++ 32 :: (nb y ++ 32 :: nb z)
  | _ => []
theorem j3_lt (l : List ByteArray) : ∀ c ∈ j3 l, c < 256 := by
  match l with
  | [] => intro c hc; cases hc
  | [x] => intro c hc; cases hc
  | [x, y] => intro c hc; cases hc
  | [x, y, z] =>
    intro c hc
    simp only [j3, List.mem_append, List.mem_cons] at hc
    rcases hc with h | h | h | h | h
    · exact nb_lt c h
    · omega
    · exact nb_lt c h
    · omega
    · exact nb_lt c h
  | x :: y :: z :: t :: r => intro c hc; cases hc
theorem k47 : (⟨#[47]⟩ : ByteArray).size = 1 := rfl
theorem size_j3 {x y z R : ByteArray} (hx : wheel (nb x) = true) (hy : wheel (nb y) = true) (hz : wheel (nb z) = true) (h : nb R = j3 [x, y, z]) : R.size ≤ 29 := by
  have lx := wheel_len hx
  have ly := wheel_len hy
  have lz := wheel_len hz
  rw [← nb_length, h]
  simp only [j3, List.length_append, List.length_cons]
  omega
/-- The text of a machine. -/
def ftL (chi psi : List ByteArray) (mo : ByteArray) : List Nat := if tvld chi psi mo then j3 chi ++ 47 :: (j3 psi ++ 47 :: nb mo) else []
theorem tvld_yes {chi psi : List ByteArray} {mo : ByteArray} (h : tvld chi psi mo = true) : wheels3 chi = true ∧ wheels3 psi = true ∧ wheel (nb mo) = true := by
  simp only [tvld, Bool.and_eq_true] at h
  exact ⟨h.1.1, h.1.2, h.2⟩
theorem nb_list (l : List UInt8) : nb ⟨l.toArray⟩ = l.map UInt8.toNat := by simp [nb]
theorem exec_fld0 (ρ : Operand → Value) (o : Oper) (x : Operand) (w : World) (b : Nat) (ho : o.op = .fieldAddr 25 x 0) (hx : ρ x = .pointer (some ⟨b, 0, none⟩)) :
    (execOp ρ o).run Tryd.prog w = .ok (.value (.pointer (some ⟨b, 0, none⟩))) w := by
  unfold execOp
  rw [ho]
  go_simp
theorem exec_fld1 (ρ : Operand → Value) (o : Oper) (x : Operand) (w : World) (b : Nat) (ho : o.op = .fieldAddr 25 x 1) (hx : ρ x = .pointer (some ⟨b, 0, none⟩)) :
    (execOp ρ o).run Tryd.prog w = .ok (.value (.pointer (some ⟨b, 1, none⟩))) w := by
  unfold execOp
  rw [ho]
  go_simp
theorem exec_fld2 (ρ : Operand → Value) (o : Oper) (x : Operand) (w : World) (b : Nat) (ho : o.op = .fieldAddr 25 x 2) (hx : ρ x = .pointer (some ⟨b, 0, none⟩)) :
    (execOp ρ o).run Tryd.prog w = .ok (.value (.pointer (some ⟨b, 2, none⟩))) w := by
  unfold execOp
  rw [ho]
  go_simp
theorem exec_loadS (ρ : Operand → Value) (o : Oper) (x : Operand) (w : World) (a : Addr) (v : Value) (ho : o.op = .load 23 x) (hx : ρ x = .pointer (some a)) (hc : w.cell? a = some v) :
    (execOp ρ o).run Tryd.prog w = .ok (.value v) w := by
  unfold execOp
  rw [ho]
  go_simp
theorem exec_loadT (ρ : Operand → Value) (o : Oper) (x : Operand) (w : World) (a : Addr) (v : Value) (ho : o.op = .load 9 x) (hx : ρ x = .pointer (some a)) (hc : w.cell? a = some v) :
    (execOp ρ o).run Tryd.prog w = .ok (.value v) w := by
  unfold execOp
  rw [ho]
  go_simp
theorem exec_add (ρ : Operand → Value) (o : Oper) (x y : Operand) (w : World) (s t : ByteArray) (ho : o.op = .binOp .add 9 x y 9) (hx : ρ x = .string s) (hy : ρ y = .string t) (hl : s.size + t.size ≤ 9223372036854775807) :
    (execOp ρ o).run Tryd.prog w = .ok (.value (.string (s ++ t))) w := by
  unfold execOp
  rw [ho]
  go_simp
theorem wp_callJ {a : Act} {w : World} {o : Oper} {K : Act → World → Prop} {Q : Exit → Act → World → Prop} {v1 : Value} {R : ByteArray} (i : Nat)
    (ho : o.op = .call { callee := .value (.func 18), args := #[.tmp i, .const (.string ⟨#[32]⟩)], argTypes := #[23, 9] }) (hx : a.tmps[i]?.getD undef = v1)
    (hc : Calls Tryd.prog 18 #[v1, .string ⟨#[32]⟩] w fun e w' => e = .returned (.string R) ∧ Below w.heap.size w w') (h : ∀ w', Below w.heap.size w w' → K (a.put o.dst (.string R)) w') : Oper.wp Tryd.prog o a w K Q := by
  have HH := Lib.hid h
  have HC := Lib.hid hc
  clear h hc
  unfold Oper.wp execOp
  simp only [ho]
  go_simp
  refine HC.out.mono ?_
  rintro e w' ⟨rfl, hb⟩
  exact HH.out w' hb
theorem wpAnyH_join {ops : Array Oper} {Q : Exit → Act → World → Prop} {md : Region.Mode} {S : World → Prop} {n : Nat} {o : Oper} {fuel : Nat} {listed : Array Bool} {a : Act} {w : World} {v1 : Value} {R : ByteArray} {i : Nat}
    (hn : ops[n]? = some o) (ho : o.op = .call { callee := .value (.func 18), args := #[.tmp i, .const (.string ⟨#[32]⟩)], argTypes := #[23, 9] })
    (hr : Region.ready md ops listed = [n]) (hw : Region.wanted o (yielded ops a.tmps) = true) (hx : a.tmps[i]?.getD undef = v1)
    (hc : Calls Tryd.prog 18 #[v1, .string ⟨#[32]⟩] w fun e w' => e = .returned (.string R) ∧ Below w.heap.size w w')
    (hS : ∀ w', Below w.heap.size w w' → S w')
    (h : ∀ w', S w' → wpAnyH Tryd.prog md ops Q S fuel (listed.setIfInBounds n true) (a.put o.dst (.string R)) w') : wpAnyH Tryd.prog md ops Q S (fuel + 1) listed a w := by
  refine wpAnyH_all hr (by simp) ?_
  intro k hk
  obtain rfl : k = n := by simpa using hk
  exact wpOp_want hn hw fun K' hK' => wp_callJ i ho hx hc fun w' hb => hK' _ _ ⟨hS w' hb, h w' (hS w' hb)⟩
/-- strings.Join of three wheels with blanks. -/
theorem join_three (A : Option Addr) (c : Nat) (x y z : ByteArray) (w : World) (h : Strs w A [x, y, z]) (hc : 3 ≤ c) (hx : wheel (nb x) = true) (hy : wheel (nb y) = true) (hz : wheel (nb z) = true) (R : ByteArray) (hR : nb R = j3 [x, y, z]) :
    Calls Tryd.prog 18 #[.slice A 3 c, .string ⟨#[32]⟩] w fun e w' => e = .returned (.string R) ∧ Below w.heap.size w w' := by
  rcases h with h | ⟨b, off, rfl, hlt, hcell⟩
  · cases h
  have e : Lib.join ([x, y, z].map (·.data.toList)) (ByteArray.mk #[32]).data.toList = x.data.toList ++ ([32] ++ (y.data.toList ++ ([32] ++ z.data.toList))) := by
    simp [Lib.join, List.intercalate]
  have e2 : nb ⟨(x.data.toList ++ ([32] ++ (y.data.toList ++ ([32] ++ z.data.toList)))).toArray⟩ = j3 [x, y, z] := by
    rw [nb_list]
    simp [j3, nb]
  obtain rfl : R = ⟨(x.data.toList ++ ([32] ++ (y.data.toList ++ ([32] ++ z.data.toList)))).toArray⟩ := nb_inj (by rw [hR, e2])
  have lx := wheel_len hx
  have ly := wheel_len hy
  have lz := wheel_len hz
  rw [nb, List.length_map] at lx ly lz
  have := Tryd.strings_Join b off c [x, y, z] ⟨#[32]⟩ w hcell hlt (by simp) hc (by rw [e]; simp only [List.length_append, List.length_cons, List.length_nil]; omega)
  rw [e] at this
  exact this
set_option maxHeartbeats 1000000 in
theorem impl_FormatTele (A B : Option Addr) (n c m d : Nat) (chi psi : List ByteArray) (mo : ByteArray) (w : World) (h : Mach w A n B m chi psi mo) (hc : n ≤ c) (hd : m ≤ d) :
    Calls Tryd.prog 6 #[.agg #[.slice A n c, .slice B m d, .string mo]] w (RetS w (ftL chi psi mo)) := by
  have H := Lib.hid (h.next (belA w (.cells #[.slice A n c, .slice B m d, .string mo] 25)))
  have HB := Lib.hid (belA w (.cells #[.slice A n c, .slice B m d, .string mo] 25))
  have hT := tbox w A n c B m d mo
  have hlc := h.lc
  have hlp := h.lp
  clear h
  cases hv : tvld chi psi mo
  · have hr : ftL chi psi mo = [] := by rw [ftL, hv]; rfl
    rw [hr]
    clear hr hT
    go_enter Tryd.func6, Tryd.ntmps6
    go_wp2_with fail
    refine (impl_TeleValid _ _ _ _ _ _ _ _ _ _ H.out).mono ?_
    rintro e v1 ⟨rfl, hb1⟩
    go_wp2_with fail
    go_ret
    exact ⟨ByteArray.empty, rfl, rfl, bthen HB.out hb1⟩
  · obtain ⟨h1, h2, h3⟩ := tvld_yes hv
    obtain ⟨x, y, z, rfl, hx, hy, hz⟩ := wheels3_yes h1
    obtain ⟨x', y', z', rfl, hx', hy', hz'⟩ := wheels3_yes h2
    obtain rfl : n = 3 := hlc.symm
    obtain rfl : m = 3 := hlp.symm
    have hr : ftL [x, y, z] [x', y', z'] mo = j3 [x, y, z] ++ 47 :: (j3 [x', y', z'] ++ 47 :: nb mo) := by rw [ftL, hv]; rfl
    rw [hr]
    obtain ⟨J1, e1⟩ := nb_of_list (j3 [x, y, z]) (j3_lt _)
    obtain ⟨J2, e2⟩ := nb_of_list (j3 [x', y', z']) (j3_lt _)
    have HX := Lib.hid (And.intro hx (And.intro hy hz))
    have HY := Lib.hid (And.intro hx' (And.intro hy' hz'))
    have HE := Lib.hid (And.intro e1 e2)
    have s1 := size_j3 hx hy hz e1
    have s2 := size_j3 hx' hy' hz' e2
    have s3 := wheel_len h3
    rw [nb_length] at s3
    clear hr hx hy hz hx' hy' hz' h1 h2 h3 e1 e2 hlc hlp
    go_enter Tryd.func6, Tryd.ntmps6
    go_wp2_with fail
    refine (impl_TeleValid _ _ _ _ _ _ _ _ _ _ H.out).mono ?_
    rw [hv]
    rintro e v1 ⟨rfl, hb1⟩
    have hB1 := bthen HB.out hb1
    have HT := Lib.hid (hT.next hb1)
    have HM := Lib.hid (H.out.next hb1)
    clear hT
    have hJ1 : ∀ u : World, Below v1.heap.size v1 u → Calls Tryd.prog 18 #[.slice A 3 c, .string ⟨#[32]⟩] u fun e w' => e = .returned (.string J1) ∧ Below u.heap.size u w' :=
      fun u hu => join_three A c x y z u (HM.out.sc.next hu) hc HX.out.1 HX.out.2.1 HX.out.2.2 J1 HE.out.1
    have hJ2 : ∀ u : World, Below v1.heap.size v1 u → Calls Tryd.prog 18 #[.slice B 3 d, .string ⟨#[32]⟩] u fun e w' => e = .returned (.string J2) ∧ Below u.heap.size u w' :=
      fun u hu => join_three B d x' y' z' u (HM.out.sp.next hu) hd HY.out.1 HY.out.2.1 HY.out.2.2 J2 HE.out.2
    go_wp2_with fail
    refine wp_region_noPanic ?_
    refine wp_region_held (S := fun u => Below v1.heap.size v1 u) (by kernel_rfl) ?_
    have hS0 : Below v1.heap.size v1 { v1 with drawn := v1.drawn + 1 } := (Below.refl _ _).drew
    refine wpAnyH_take (i := 0) (v := .pointer (some ⟨w.heap.size, 0, none⟩)) rfl (by kernel_rfl) (by kernel_rfl) (by kernel_rfl) (fun _ _ _ h => h) (.inl ⟨by kernel_rfl, fun u hu => exec_fld0 _ _ _ u _ rfl (by kernel_rfl)⟩) hS0 ?_
    refine wpAnyH_take (i := 1) (v := .slice A 3 c) rfl (by kernel_rfl) (by kernel_rfl) (by kernel_rfl) (fun _ _ _ h => h) (.inl ⟨by kernel_rfl, fun u hu => exec_loadS _ _ _ u _ _ rfl (by kernel_rfl) ((HT.out.next hu).cell (j := 0) rfl)⟩) hS0 ?_
    refine wpAnyH_take (i := 4) (v := .pointer (some ⟨w.heap.size, 1, none⟩)) rfl (by kernel_rfl) (by kernel_rfl) (by kernel_rfl) (fun _ _ _ h => h) (.inl ⟨by kernel_rfl, fun u hu => exec_fld1 _ _ _ u _ rfl (by kernel_rfl)⟩) hS0 ?_
    refine wpAnyH_take (i := 5) (v := .slice B 3 d) rfl (by kernel_rfl) (by kernel_rfl) (by kernel_rfl) (fun _ _ _ h => h) (.inl ⟨by kernel_rfl, fun u hu => exec_loadS _ _ _ u _ _ rfl (by kernel_rfl) ((HT.out.next hu).cell (j := 1) rfl)⟩) hS0 ?_
    refine wpAnyH_take (i := 9) (v := .pointer (some ⟨w.heap.size, 2, none⟩)) rfl (by kernel_rfl) (by kernel_rfl) (by kernel_rfl) (fun _ _ _ h => h) (.inl ⟨by kernel_rfl, fun u hu => exec_fld2 _ _ _ u _ rfl (by kernel_rfl)⟩) hS0 ?_
    refine wpAnyH_take (i := 10) (v := .string mo) rfl (by kernel_rfl) (by kernel_rfl) (by kernel_rfl) (fun _ _ _ h => h) (.inl ⟨by kernel_rfl, fun u hu => exec_loadT _ _ _ u _ _ rfl (by kernel_rfl) ((HT.out.next hu).cell (j := 2) rfl)⟩) hS0 ?_
    refine wpAnyH_join (n := 2) (i := 7) (v1 := .slice A 3 c) (R := J1) rfl rfl (by kernel_rfl) (by kernel_rfl) (by kernel_rfl) (hJ1 _ hS0) (fun _ hb => bthen hS0 hb) ?_
    intro u1 hS1
    refine wpAnyH_take (i := 3) (v := .string (J1 ++ ⟨#[47]⟩)) rfl (by kernel_rfl) (by kernel_rfl) (by kernel_rfl) (fun _ _ _ h => h) (.inl ⟨by kernel_rfl, fun u hu => exec_add _ _ _ _ u J1 ⟨#[47]⟩ rfl (by kernel_rfl) (by kernel_rfl) (by simp only [k47]; omega)⟩) hS1 ?_
    refine wpAnyH_join (n := 6) (i := 11) (v1 := .slice B 3 d) (R := J2) rfl rfl (by kernel_rfl) (by kernel_rfl) (by kernel_rfl) (hJ2 _ hS1) (fun _ hb => bthen hS1 hb) ?_
    intro u2 hS2
    refine wpAnyH_take (i := 7) (v := .string (J1 ++ ⟨#[47]⟩ ++ J2)) rfl (by kernel_rfl) (by kernel_rfl) (by kernel_rfl) (fun _ _ _ h => h) (.inl ⟨by kernel_rfl, fun u hu => exec_add _ _ _ _ u (J1 ++ ⟨#[47]⟩) J2 rfl (by kernel_rfl) (by kernel_rfl) (by simp only [ByteArray.size_append, k47]; omega)⟩) hS2 ?_
    refine wpAnyH_take (i := 8) (v := .string (J1 ++ ⟨#[47]⟩ ++ J2 ++ ⟨#[47]⟩)) rfl (by kernel_rfl) (by kernel_rfl) (by kernel_rfl) (fun _ _ _ h => h) (.inl ⟨by kernel_rfl, fun u hu => exec_add _ _ _ _ u (J1 ++ ⟨#[47]⟩ ++ J2) ⟨#[47]⟩ rfl (by kernel_rfl) (by kernel_rfl) (by simp only [ByteArray.size_append, k47]; omega)⟩) hS2 ?_
    refine wpAnyH_take (i := 11) (v := .string (J1 ++ ⟨#[47]⟩ ++ J2 ++ ⟨#[47]⟩ ++ mo)) rfl (by kernel_rfl) (by kernel_rfl) (by kernel_rfl) (fun _ _ _ h => h) (.inl ⟨by kernel_rfl, fun u hu => exec_add _ _ _ _ u (J1 ++ ⟨#[47]⟩ ++ J2 ++ ⟨#[47]⟩) mo rfl (by kernel_rfl) (by kernel_rfl) (by simp only [ByteArray.size_append, k47]; omega)⟩) hS2 ?_
    refine wpAnyH_take (i := 12) (v := .string (J1 ++ ⟨#[47]⟩ ++ J2 ++ ⟨#[47]⟩ ++ mo)) rfl (by kernel_rfl) (by kernel_rfl) (by kernel_rfl) (fun _ _ _ h => h) (.inl ⟨by kernel_rfl, fun u hu => by kernel_rfl⟩) hS2 ?_
    refine wpAnyH_done (by kernel_rfl) ?_ _
    refine NoPanic.normal ?_
    go_wp2_with fail
    go_ret
    refine ⟨J1 ++ ⟨#[47]⟩ ++ J2 ++ ⟨#[47]⟩ ++ mo, by kernel_rfl, ?_, bthen hB1 hS2⟩
    simp only [nb_append, HE.out.1, HE.out.2]
    have k : nb ⟨#[47]⟩ = [47] := rfl
    rw [k]
    simp only [List.append_assoc, List.nil_append, List.cons_append]
set_option maxHeartbeats 4000000 in
theorem spec_FormatTele (A B : Option Addr) (n c m d : Nat) (chi psi : List ByteArray) (mo : ByteArray) (w : World) (h : Mach w A n B m chi psi mo) :
    Calls Tryd.prog 7 #[.agg #[.slice A n c, .slice B m d, .string mo]] w (RetS w (ftL chi psi mo)) := by
  have H := Lib.hid (h.next (belA w (.cells #[.slice A n c, .slice B m d, .string mo] 25)))
  have HB := Lib.hid (belA w (.cells #[.slice A n c, .slice B m d, .string mo] 25))
  have hT := tbox w A n c B m d mo
  have hlc := h.lc
  have hlp := h.lp
  clear h
  cases hv : tvld chi psi mo
  · have hr : ftL chi psi mo = [] := by rw [ftL, hv]; rfl
    rw [hr]
    clear hr hT
    go_enter Tryd.func7, Tryd.ntmps7
    go_wp2_with fail
    refine (spec_TeleValid _ _ _ _ _ _ _ _ _ _ H.out).mono ?_
    rintro e v1 ⟨rfl, hb1⟩
    go_wp2_with fail
    go_ret
    exact ⟨ByteArray.empty, rfl, rfl, bthen HB.out hb1⟩
  · obtain ⟨h1, h2, h3⟩ := tvld_yes hv
    obtain ⟨x, y, z, rfl, hx, hy, hz⟩ := wheels3_yes h1
    obtain ⟨x', y', z', rfl, hx', hy', hz'⟩ := wheels3_yes h2
    obtain rfl : n = 3 := hlc.symm
    obtain rfl : m = 3 := hlp.symm
    have hr : ftL [x, y, z] [x', y', z'] mo = j3 [x, y, z] ++ 47 :: (j3 [x', y', z'] ++ 47 :: nb mo) := by rw [ftL, hv]; rfl
    rw [hr]
    have sx := (wheel_len hx).2
    have sy := (wheel_len hy).2
    have sz := (wheel_len hz).2
    have sx' := (wheel_len hx').2
    have sy' := (wheel_len hy').2
    have sz' := (wheel_len hz').2
    have sm := (wheel_len h3).2
    rw [nb_length] at sx sy sz sx' sy' sz' sm
    clear hr hx hy hz hx' hy' hz' h1 h2 h3 hlc hlp
    go_enter Tryd.func7, Tryd.ntmps7
    go_wp2_with fail
    refine (spec_TeleValid _ _ _ _ _ _ _ _ _ _ H.out).mono ?_
    rw [hv]
    rintro e v1 ⟨rfl, hb1⟩
    have hB1 := bthen HB.out hb1
    have hT1 := hT.next hb1
    have q0 : v1.cell? ⟨w.heap.size, 0, none⟩ = some (.slice A 3 c) := hT1.cell (j := 0) rfl
    have q1 : v1.cell? ⟨w.heap.size, 1, none⟩ = some (.slice B 3 d) := hT1.cell (j := 1) rfl
    have q2 : v1.cell? ⟨w.heap.size, 2, none⟩ = some (.string mo) := hT1.cell (j := 2) rfl
    have hM1 := H.out.next hb1
    rcases hM1.sc with hs | ⟨b, off, rfl, hlt, hcell⟩
    · cases hs
    rcases hM1.sp with hs | ⟨b', off', rfl, hlt', hcell'⟩
    · cases hs
    have c0 : v1.cell? ⟨b, off, none⟩ = some (.string x) := hcell 0 x rfl
    have c1 : v1.cell? ⟨b, off + 1, none⟩ = some (.string y) := hcell 1 y rfl
    have c2 : v1.cell? ⟨b, off + 2, none⟩ = some (.string z) := hcell 2 z rfl
    have d0 : v1.cell? ⟨b', off', none⟩ = some (.string x') := hcell' 0 x' rfl
    have d1 : v1.cell? ⟨b', off' + 1, none⟩ = some (.string y') := hcell' 1 y' rfl
    have d2 : v1.cell? ⟨b', off' + 2, none⟩ = some (.string z') := hcell' 2 z' rfl
    clear hT hT1 hM1 hcell hcell'
    go_wp2_with fail
    go_quiet (fail)
    go_wp2_with fail
    go_ret
    refine ⟨_, rfl, ?_, ?_⟩
    · simp only [nb_append]
      have k : nb ⟨#[47]⟩ = [47] := rfl
      have k2 : nb ⟨#[32]⟩ = [32] := rfl
      simp only [k, k2, j3, List.append_assoc, List.nil_append, List.cons_append]
    · exact bel_drewN hB1 _
end Go.Proofs.YtchjhngfkngljaaDoor
