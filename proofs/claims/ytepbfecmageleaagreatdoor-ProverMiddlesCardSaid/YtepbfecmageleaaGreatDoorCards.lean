/-
  DERIVED. GIVEN WITH THE SEED: THE CARDS: each row of YtepbfecmageleaaGreatDoorRows.lean that lists a variable, with what it lists TIED to the program's text (the seventh form; the later family's looks); each row that meets fmt, with fmt's text TOLD by the authors' own Lean function (tested against real Go, not proved from fmt's source: count such statements apart). THE CARD IS WHAT COUNTS. Prove the row's statement (the work); the ties are given (YtepbfecmageleaaGreatDoorTie.lean); close each card by the builder's one call (the guide's Derived/Test/ToyasCard.lean, 'card_holds'). Laid BY PROGRAM, IN A SANDBOX (cutbox-door.mjs). By AI agents, Wed Nov 11 2026. No macro, syntax, notation, axiom, sorry.
-/
import Derived.Test.YtepbfecmageleaaGreatDoorRows
import GoSem.ClaimSeven
namespace Go.Proofs.YtepbfecmageleaaGreatDoor
namespace Rows

/-- THE TIED CARD OF 'straightedgelaw23.ProverMiddles'. -/
def proverMiddlesCard : Claim7 := { stood := { row := proverMiddlesRow, standIns := [], harness := (true, "8b3b97eb671d54ed73fa3d46b62285735ea83279f5a216e940a60deda091238f"), looks := true }, kinds := [], alts := [], laidByText := true, laidKinds := [.data, .data, .data, .sentinel, .sentinel], laidTests := true, laidLooks := .later }
def ProverMiddlesCardSaid : Prop := Claim7.holds Tryz.pinned (.plain (OpenSpec.ofChange proverMiddlesSpec)) proverMiddlesCard

/-- THE SECOND FORM's CARD OF 'straightedgelaw23.ProverMiddles'. -/
def proverMiddlesUptoCard : Claim7 := { stood := { row := proverMiddlesUptoRow, standIns := [], harness := (true, "8b3b97eb671d54ed73fa3d46b62285735ea83279f5a216e940a60deda091238f"), looks := true }, kinds := [], alts := [], laidByText := true, laidKinds := [.data, .data, .data, .sentinel, .sentinel], laidTests := true, laidLooks := .later }
def ProverMiddlesUptoCardSaid : Prop := Claim7.holds Tryz.pinned (.plain (OpenSpec.upto proverMiddlesSpec)) proverMiddlesUptoCard
end Rows
end Go.Proofs.YtepbfecmageleaaGreatDoor
