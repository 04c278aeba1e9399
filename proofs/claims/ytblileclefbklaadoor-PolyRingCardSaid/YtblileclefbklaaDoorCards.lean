/-
  DERIVED. GIVEN WITH THE SEED: THE CARDS: each row of YtblileclefbklaaDoorRows.lean that lists a variable, with what it lists TIED to the program's text (the seventh form; the later family's looks); each row that meets fmt, with fmt's text TOLD by the authors' own Lean function (tested against real Go, not proved from fmt's source: count such statements apart). THE CARD IS WHAT COUNTS. Prove the row's statement (the work); the ties are given (YtblileclefbklaaDoorTie.lean); close each card by the builder's one call (the guide's Derived/Test/ToyasCard.lean, 'card_holds'). Laid BY PROGRAM, IN A SANDBOX (cutbox-door.mjs). By AI agents, Wed Nov 11 2026. No macro, syntax, notation, axiom, sorry.
-/
import Derived.Test.YtblileclefbklaaDoorRows
import GoSem.ClaimSeven
namespace Go.Proofs.YtblileclefbklaaDoor
namespace Rows

/-- THE TIED CARD OF 'syzygistlaw.PolyOps'. -/
def polyOpsCard : Claim7 := { stood := { row := polyOpsRow, standIns := [], harness := (true, "e2d9e35ac884d87cee5f1756a74e9a0ad897c1bdb6e4cd7e1b828663e5e8ef67"), looks := false }, kinds := [], alts := [], laidByText := true, laidKinds := [.data, .data, .data], laidTests := true, laidLooks := .later }
def PolyOpsCardSaid : Prop := Claim7.holds Tryd.pinned (.plain (OpenSpec.ofChange polyOpsSpec)) polyOpsCard

/-- THE TIED CARD OF 'syzygistlaw.PolyMakes'. -/
def polyMakesCard : Claim7 := { stood := { row := polyMakesRow, standIns := [], harness := (true, "e2d9e35ac884d87cee5f1756a74e9a0ad897c1bdb6e4cd7e1b828663e5e8ef67"), looks := false }, kinds := [], alts := [], laidByText := true, laidKinds := [.data, .data, .data], laidTests := true, laidLooks := .later }
def PolyMakesCardSaid : Prop := Claim7.holds Tryd.pinned (.plain (OpenSpec.ofChange polyMakesSpec)) polyMakesCard

/-- THE TIED CARD OF 'syzygistlaw.PolyRing'. -/
def polyRingCard : Claim7 := { stood := { row := polyRingRow, standIns := [], harness := (true, "e2d9e35ac884d87cee5f1756a74e9a0ad897c1bdb6e4cd7e1b828663e5e8ef67"), looks := false }, kinds := [], alts := [], laidByText := true, laidKinds := [.data, .data, .data], laidTests := true, laidLooks := .later }
def PolyRingCardSaid : Prop := Claim7.holds Tryd.pinned (.plain (OpenSpec.ofChange polyRingSpec)) polyRingCard

/-- THE SECOND FORM's CARD OF 'syzygistlaw.PolyOps'. -/
def polyOpsUptoCard : Claim7 := { stood := { row := polyOpsUptoRow, standIns := [], harness := (true, "e2d9e35ac884d87cee5f1756a74e9a0ad897c1bdb6e4cd7e1b828663e5e8ef67"), looks := false }, kinds := [], alts := [], laidByText := true, laidKinds := [.data, .data, .data], laidTests := true, laidLooks := .later }
def PolyOpsUptoCardSaid : Prop := Claim7.holds Tryd.pinned (.plain (OpenSpec.upto polyOpsSpec)) polyOpsUptoCard

/-- THE SECOND FORM's CARD OF 'syzygistlaw.PolyMakes'. -/
def polyMakesUptoCard : Claim7 := { stood := { row := polyMakesUptoRow, standIns := [], harness := (true, "e2d9e35ac884d87cee5f1756a74e9a0ad897c1bdb6e4cd7e1b828663e5e8ef67"), looks := false }, kinds := [], alts := [], laidByText := true, laidKinds := [.data, .data, .data], laidTests := true, laidLooks := .later }
def PolyMakesUptoCardSaid : Prop := Claim7.holds Tryd.pinned (.plain (OpenSpec.upto polyMakesSpec)) polyMakesUptoCard

/-- THE SECOND FORM's CARD OF 'syzygistlaw.PolyRing'. -/
def polyRingUptoCard : Claim7 := { stood := { row := polyRingUptoRow, standIns := [], harness := (true, "e2d9e35ac884d87cee5f1756a74e9a0ad897c1bdb6e4cd7e1b828663e5e8ef67"), looks := false }, kinds := [], alts := [], laidByText := true, laidKinds := [.data, .data, .data], laidTests := true, laidLooks := .later }
def PolyRingUptoCardSaid : Prop := Claim7.holds Tryd.pinned (.plain (OpenSpec.upto polyRingSpec)) polyRingUptoCard
end Rows
end Go.Proofs.YtblileclefbklaaDoor
