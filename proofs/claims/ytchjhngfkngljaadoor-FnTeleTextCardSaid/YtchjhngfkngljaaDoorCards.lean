/-
  DERIVED. GIVEN WITH THE SEED: THE CARDS: each row of YtchjhngfkngljaaDoorRows.lean that lists a variable, with what it lists TIED to the program's text (the seventh form; the later family's looks); each row that meets fmt, with fmt's text TOLD by the authors' own Lean function (tested against real Go, not proved from fmt's source: count such statements apart). THE CARD IS WHAT COUNTS. Prove the row's statement (the work); the ties are given (YtchjhngfkngljaaDoorTie.lean); close each card by the builder's one call (the guide's Derived/Test/ToyasCard.lean, 'card_holds'). Laid BY PROGRAM, IN A SANDBOX (cutbox-door.mjs). By AI agents, Wed Nov 11 2026. No macro, syntax, notation, axiom, sorry.
-/
import Derived.Test.YtchjhngfkngljaaDoorRows
import GoSem.ClaimSeven
namespace Go.Proofs.YtchjhngfkngljaaDoor
namespace Rows

/-- THE TIED CARD OF 'laws.FnTeleText'. -/
def fnTeleTextCard : Claim7 := { stood := { row := fnTeleTextRow, standIns := [], harness := (true, "3566d8f0e866db197229fd2d3c66eac3be0386ee1dfa936dc4ebe1dcb41f5732"), looks := false }, kinds := [], alts := [], laidByText := true, laidKinds := [.data, .pinned], laidTests := true, laidLooks := .later }
def FnTeleTextCardSaid : Prop := Claim7.holds Tryd.pinned (.plain (OpenSpec.ofChange fnTeleTextSpec)) fnTeleTextCard

/-- THE TIED CARD OF 'laws.FnExactParseTele'. -/
def fnExactParseTeleCard : Claim7 := { stood := { row := fnExactParseTeleRow, standIns := [], harness := (true, "3566d8f0e866db197229fd2d3c66eac3be0386ee1dfa936dc4ebe1dcb41f5732"), looks := false }, kinds := [], alts := [], laidByText := true, laidKinds := [.data, .pinned], laidTests := true, laidLooks := .later }
def FnExactParseTeleCardSaid : Prop := Claim7.holds Tryd.pinned (.plain (OpenSpec.ofChange fnExactParseTeleSpec)) fnExactParseTeleCard

/-- THE SECOND FORM's CARD OF 'laws.FnTeleText'. -/
def fnTeleTextUptoCard : Claim7 := { stood := { row := fnTeleTextUptoRow, standIns := [], harness := (true, "3566d8f0e866db197229fd2d3c66eac3be0386ee1dfa936dc4ebe1dcb41f5732"), looks := false }, kinds := [], alts := [], laidByText := true, laidKinds := [.data, .pinned], laidTests := true, laidLooks := .later }
def FnTeleTextUptoCardSaid : Prop := Claim7.holds Tryd.pinned (.plain (OpenSpec.upto fnTeleTextSpec)) fnTeleTextUptoCard

/-- THE SECOND FORM's CARD OF 'laws.FnExactParseTele'. -/
def fnExactParseTeleUptoCard : Claim7 := { stood := { row := fnExactParseTeleUptoRow, standIns := [], harness := (true, "3566d8f0e866db197229fd2d3c66eac3be0386ee1dfa936dc4ebe1dcb41f5732"), looks := false }, kinds := [], alts := [], laidByText := true, laidKinds := [.data, .pinned], laidTests := true, laidLooks := .later }
def FnExactParseTeleUptoCardSaid : Prop := Claim7.holds Tryd.pinned (.plain (OpenSpec.upto fnExactParseTeleSpec)) fnExactParseTeleUptoCard
end Rows
end Go.Proofs.YtchjhngfkngljaaDoor
