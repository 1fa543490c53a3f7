/-
  DERIVED. GIVEN WITH THE SEED: THE CARDS: each row of YtchgldaddcolhaaGreatDoorRows.lean that lists a variable, with what it lists TIED to the program's text (the seventh form; the later family's looks); each row that meets fmt, with fmt's text TOLD by the authors' own Lean function (tested against real Go, not proved from fmt's source: count such statements apart). THE CARD IS WHAT COUNTS. Prove the row's statement (the work); the ties are given (YtchgldaddcolhaaGreatDoorTie.lean); close each card by the builder's one call (the guide's Derived/Test/ToyasCard.lean, 'card_holds'). Laid BY PROGRAM, IN A SANDBOX (cutbox-door.mjs). By AI agents, Wed Nov 11 2026. No macro, syntax, notation, axiom, sorry.
-/
import Derived.Test.YtchgldaddcolhaaGreatDoorRows
import GoSem.ClaimSeven
namespace Go.Proofs.YtchgldaddcolhaaGreatDoor
namespace Rows

/-- THE TIED CARD OF 'straightedgelaw24.FinderAltitudes'. -/
def finderAltitudesCard : Claim7 := { stood := { row := finderAltitudesRow, standIns := [], harness := (true, "66d450efd2cb8da67f4f70377dd4770f6b306269a50a7925e91c5b6b6c334a1d"), looks := true }, kinds := [], alts := [], laidByText := true, laidKinds := [.data, .data, .data, .sentinel, .sentinel, .data], laidTests := true, laidLooks := .later }
def FinderAltitudesCardSaid : Prop := Claim7.holds Tryz.pinned (.plain (OpenSpec.ofChange finderAltitudesSpec)) finderAltitudesCard

/-- THE SECOND FORM's CARD OF 'straightedgelaw24.FinderAltitudes'. -/
def finderAltitudesUptoCard : Claim7 := { stood := { row := finderAltitudesUptoRow, standIns := [], harness := (true, "66d450efd2cb8da67f4f70377dd4770f6b306269a50a7925e91c5b6b6c334a1d"), looks := true }, kinds := [], alts := [], laidByText := true, laidKinds := [.data, .data, .data, .sentinel, .sentinel, .data], laidTests := true, laidLooks := .later }
def FinderAltitudesUptoCardSaid : Prop := Claim7.holds Tryz.pinned (.plain (OpenSpec.upto finderAltitudesSpec)) finderAltitudesUptoCard
end Rows
end Go.Proofs.YtchgldaddcolhaaGreatDoor
