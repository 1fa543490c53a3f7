/-
  DERIVED. GIVEN WITH THE SEED: THE CARDS: each row of YtjkdcddpicndgaaGreatDoorRows.lean that lists a variable, with what it lists TIED to the program's text (the seventh form; the later family's looks); each row that meets fmt, with fmt's text TOLD by the authors' own Lean function (tested against real Go, not proved from fmt's source: count such statements apart). THE CARD IS WHAT COUNTS. Prove the row's statement (the work); the ties are given (YtjkdcddpicndgaaGreatDoorTie.lean); close each card by the builder's one call (the guide's Derived/Test/ToyasCard.lean, 'card_holds'). Laid BY PROGRAM, IN A SANDBOX (cutbox-door.mjs). By AI agents, Wed Nov 11 2026. No macro, syntax, notation, axiom, sorry.
-/
import Derived.Test.YtjkdcddpicndgaaGreatDoorRows
import GoSem.ClaimSeven
namespace Go.Proofs.YtjkdcddpicndgaaGreatDoor
namespace Rows

/-- THE TIED CARD OF 'straightedgelaw33.ExerciseRight'. -/
def exerciseRightCard : Claim7 := { stood := { row := exerciseRightRow, standIns := [], harness := (true, "06fda45329d6df2028705f0111d4981572102358aaffbb03fbe47c4a0f39751b"), looks := true }, kinds := [], alts := [], laidByText := true, laidKinds := [.data, .data, .data, .sentinel, .sentinel], laidTests := true, laidLooks := .later }
def ExerciseRightCardSaid : Prop := Claim7.holds Tryz.pinned (.plain (OpenSpec.ofChange exerciseRightSpec)) exerciseRightCard

/-- THE TIED CARD OF 'straightedgelaw33.ExerciseFewest'. -/
def exerciseFewestCard : Claim7 := { stood := { row := exerciseFewestRow, standIns := [], harness := (true, "06fda45329d6df2028705f0111d4981572102358aaffbb03fbe47c4a0f39751b"), looks := true }, kinds := [], alts := [], laidByText := true, laidKinds := [.data, .data, .data, .sentinel, .sentinel], laidTests := true, laidLooks := .later }
def ExerciseFewestCardSaid : Prop := Claim7.holds Tryz.pinned (.plain (OpenSpec.ofChange exerciseFewestSpec)) exerciseFewestCard

/-- THE TIED CARD OF 'straightedgelaw33.ExerciseShortest'. -/
def exerciseShortestCard : Claim7 := { stood := { row := exerciseShortestRow, standIns := [], harness := (true, "06fda45329d6df2028705f0111d4981572102358aaffbb03fbe47c4a0f39751b"), looks := true }, kinds := [], alts := [], laidByText := true, laidKinds := [.data, .data, .data, .sentinel, .sentinel], laidTests := true, laidLooks := .later }
def ExerciseShortestCardSaid : Prop := Claim7.holds Tryz.pinned (.plain (OpenSpec.ofChange exerciseShortestSpec)) exerciseShortestCard

/-- THE TIED CARD OF 'straightedgelaw33.ExerciseMiddle'. -/
def exerciseMiddleCard : Claim7 := { stood := { row := exerciseMiddleRow, standIns := [], harness := (true, "06fda45329d6df2028705f0111d4981572102358aaffbb03fbe47c4a0f39751b"), looks := true }, kinds := [], alts := [], laidByText := true, laidKinds := [.data, .data, .data, .sentinel, .sentinel], laidTests := true, laidLooks := .later }
def ExerciseMiddleCardSaid : Prop := Claim7.holds Tryz.pinned (.plain (OpenSpec.ofChange exerciseMiddleSpec)) exerciseMiddleCard

/-- THE TIED CARD OF 'straightedgelaw33.ExerciseBreaks'. -/
def exerciseBreaksCard : Claim7 := { stood := { row := exerciseBreaksRow, standIns := [], harness := (true, "06fda45329d6df2028705f0111d4981572102358aaffbb03fbe47c4a0f39751b"), looks := true }, kinds := [], alts := [], laidByText := true, laidKinds := [.data, .data, .data, .sentinel, .sentinel], laidTests := true, laidLooks := .later }
def ExerciseBreaksCardSaid : Prop := Claim7.holds Tryz.pinned (.plain (OpenSpec.ofChange exerciseBreaksSpec)) exerciseBreaksCard

/-- THE TIED CARD OF 'straightedgelaw33.ExerciseApart'. -/
def exerciseApartCard : Claim7 := { stood := { row := exerciseApartRow, standIns := [], harness := (true, "06fda45329d6df2028705f0111d4981572102358aaffbb03fbe47c4a0f39751b"), looks := true }, kinds := [], alts := [], laidByText := true, laidKinds := [.data, .data, .data, .sentinel, .sentinel], laidTests := true, laidLooks := .later }
def ExerciseApartCardSaid : Prop := Claim7.holds Tryz.pinned (.plain (OpenSpec.ofChange exerciseApartSpec)) exerciseApartCard

/-- THE SECOND FORM's CARD OF 'straightedgelaw33.ExerciseRight'. -/
def exerciseRightUptoCard : Claim7 := { stood := { row := exerciseRightUptoRow, standIns := [], harness := (true, "06fda45329d6df2028705f0111d4981572102358aaffbb03fbe47c4a0f39751b"), looks := true }, kinds := [], alts := [], laidByText := true, laidKinds := [.data, .data, .data, .sentinel, .sentinel], laidTests := true, laidLooks := .later }
def ExerciseRightUptoCardSaid : Prop := Claim7.holds Tryz.pinned (.plain (OpenSpec.upto exerciseRightSpec)) exerciseRightUptoCard

/-- THE SECOND FORM's CARD OF 'straightedgelaw33.ExerciseFewest'. -/
def exerciseFewestUptoCard : Claim7 := { stood := { row := exerciseFewestUptoRow, standIns := [], harness := (true, "06fda45329d6df2028705f0111d4981572102358aaffbb03fbe47c4a0f39751b"), looks := true }, kinds := [], alts := [], laidByText := true, laidKinds := [.data, .data, .data, .sentinel, .sentinel], laidTests := true, laidLooks := .later }
def ExerciseFewestUptoCardSaid : Prop := Claim7.holds Tryz.pinned (.plain (OpenSpec.upto exerciseFewestSpec)) exerciseFewestUptoCard

/-- THE SECOND FORM's CARD OF 'straightedgelaw33.ExerciseShortest'. -/
def exerciseShortestUptoCard : Claim7 := { stood := { row := exerciseShortestUptoRow, standIns := [], harness := (true, "06fda45329d6df2028705f0111d4981572102358aaffbb03fbe47c4a0f39751b"), looks := true }, kinds := [], alts := [], laidByText := true, laidKinds := [.data, .data, .data, .sentinel, .sentinel], laidTests := true, laidLooks := .later }
def ExerciseShortestUptoCardSaid : Prop := Claim7.holds Tryz.pinned (.plain (OpenSpec.upto exerciseShortestSpec)) exerciseShortestUptoCard

/-- THE SECOND FORM's CARD OF 'straightedgelaw33.ExerciseMiddle'. -/
def exerciseMiddleUptoCard : Claim7 := { stood := { row := exerciseMiddleUptoRow, standIns := [], harness := (true, "06fda45329d6df2028705f0111d4981572102358aaffbb03fbe47c4a0f39751b"), looks := true }, kinds := [], alts := [], laidByText := true, laidKinds := [.data, .data, .data, .sentinel, .sentinel], laidTests := true, laidLooks := .later }
def ExerciseMiddleUptoCardSaid : Prop := Claim7.holds Tryz.pinned (.plain (OpenSpec.upto exerciseMiddleSpec)) exerciseMiddleUptoCard

/-- THE SECOND FORM's CARD OF 'straightedgelaw33.ExerciseBreaks'. -/
def exerciseBreaksUptoCard : Claim7 := { stood := { row := exerciseBreaksUptoRow, standIns := [], harness := (true, "06fda45329d6df2028705f0111d4981572102358aaffbb03fbe47c4a0f39751b"), looks := true }, kinds := [], alts := [], laidByText := true, laidKinds := [.data, .data, .data, .sentinel, .sentinel], laidTests := true, laidLooks := .later }
def ExerciseBreaksUptoCardSaid : Prop := Claim7.holds Tryz.pinned (.plain (OpenSpec.upto exerciseBreaksSpec)) exerciseBreaksUptoCard

/-- THE SECOND FORM's CARD OF 'straightedgelaw33.ExerciseApart'. -/
def exerciseApartUptoCard : Claim7 := { stood := { row := exerciseApartUptoRow, standIns := [], harness := (true, "06fda45329d6df2028705f0111d4981572102358aaffbb03fbe47c4a0f39751b"), looks := true }, kinds := [], alts := [], laidByText := true, laidKinds := [.data, .data, .data, .sentinel, .sentinel], laidTests := true, laidLooks := .later }
def ExerciseApartUptoCardSaid : Prop := Claim7.holds Tryz.pinned (.plain (OpenSpec.upto exerciseApartSpec)) exerciseApartUptoCard
end Rows
end Go.Proofs.YtjkdcddpicndgaaGreatDoor
