/-
  DERIVED. GIVEN WITH THE SEED: THE CARDS: each row of YtojbjaklngdlcaaGreatDoorRows.lean that lists a variable, with what it lists TIED to the program's text (the seventh form; the later family's looks); each row that meets fmt, with fmt's text TOLD by the authors' own Lean function (tested against real Go, not proved from fmt's source: count such statements apart). THE CARD IS WHAT COUNTS. Prove the row's statement (the work); the ties are given (YtojbjaklngdlcaaGreatDoorTie.lean); close each card by the builder's one call (the guide's Derived/Test/ToyasCard.lean, 'card_holds'). Laid BY PROGRAM, IN A SANDBOX (cutbox-door.mjs). By AI agents, Wed Nov 11 2026. No macro, syntax, notation, axiom, sorry.
-/
import Derived.Test.YtojbjaklngdlcaaGreatDoorRows
import GoSem.ClaimSeven
namespace Go.Proofs.YtojbjaklngdlcaaGreatDoor
namespace Rows

/-- THE TIED CARD OF 'chalklinelaw04.WeekVars'. -/
def weekVarsCard : Claim7 := { stood := { row := weekVarsRow, standIns := [], harness := (true, "89639a3b0c7d401dbc7b4bd5de317ec6ec28803593d86273f73bbdc03e062216"), looks := false }, kinds := [], alts := [], laidByText := true, laidKinds := [.data, .data, .data], laidTests := true, laidLooks := .later }
def WeekVarsCardSaid : Prop := Claim7.holds Tryz.pinned (.plain (OpenSpec.ofChange weekVarsSpec)) weekVarsCard

/-- THE TIED CARD OF 'chalklinelaw04.WeekAssignment'. -/
def weekAssignmentCard : Claim7 := { stood := { row := weekAssignmentRow, standIns := [], harness := (true, "89639a3b0c7d401dbc7b4bd5de317ec6ec28803593d86273f73bbdc03e062216"), looks := false }, kinds := [], alts := [], laidByText := true, laidKinds := [.data, .data, .data], laidTests := true, laidLooks := .later }
def WeekAssignmentCardSaid : Prop := Claim7.holds Tryz.pinned (.plain (OpenSpec.ofChange weekAssignmentSpec)) weekAssignmentCard

/-- THE TIED CARD OF 'chalklinelaw04.WeekAll'. -/
def weekAllCard : Claim7 := { stood := { row := weekAllRow, standIns := [], harness := (true, "89639a3b0c7d401dbc7b4bd5de317ec6ec28803593d86273f73bbdc03e062216"), looks := false }, kinds := [], alts := [], laidByText := true, laidKinds := [.data, .data, .data], laidTests := true, laidLooks := .later }
def WeekAllCardSaid : Prop := Claim7.holds Tryz.pinned (.plain (OpenSpec.ofChange weekAllSpec)) weekAllCard

/-- THE SECOND FORM's CARD OF 'chalklinelaw04.WeekVars'. -/
def weekVarsUptoCard : Claim7 := { stood := { row := weekVarsUptoRow, standIns := [], harness := (true, "89639a3b0c7d401dbc7b4bd5de317ec6ec28803593d86273f73bbdc03e062216"), looks := false }, kinds := [], alts := [], laidByText := true, laidKinds := [.data, .data, .data], laidTests := true, laidLooks := .later }
def WeekVarsUptoCardSaid : Prop := Claim7.holds Tryz.pinned (.plain (OpenSpec.upto weekVarsSpec)) weekVarsUptoCard

/-- THE SECOND FORM's CARD OF 'chalklinelaw04.WeekAssignment'. -/
def weekAssignmentUptoCard : Claim7 := { stood := { row := weekAssignmentUptoRow, standIns := [], harness := (true, "89639a3b0c7d401dbc7b4bd5de317ec6ec28803593d86273f73bbdc03e062216"), looks := false }, kinds := [], alts := [], laidByText := true, laidKinds := [.data, .data, .data], laidTests := true, laidLooks := .later }
def WeekAssignmentUptoCardSaid : Prop := Claim7.holds Tryz.pinned (.plain (OpenSpec.upto weekAssignmentSpec)) weekAssignmentUptoCard

/-- THE SECOND FORM's CARD OF 'chalklinelaw04.WeekAll'. -/
def weekAllUptoCard : Claim7 := { stood := { row := weekAllUptoRow, standIns := [], harness := (true, "89639a3b0c7d401dbc7b4bd5de317ec6ec28803593d86273f73bbdc03e062216"), looks := false }, kinds := [], alts := [], laidByText := true, laidKinds := [.data, .data, .data], laidTests := true, laidLooks := .later }
def WeekAllUptoCardSaid : Prop := Claim7.holds Tryz.pinned (.plain (OpenSpec.upto weekAllSpec)) weekAllUptoCard
end Rows
end Go.Proofs.YtojbjaklngdlcaaGreatDoor
