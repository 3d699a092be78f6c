/-
  DERIVED. GIVEN WITH THE SEED: THE CARDS: each row of YtcnldbhkppfmmaaDoorRows.lean that lists a variable, with what it lists TIED to the program's text (the seventh form; the later family's looks); each row that meets fmt, with fmt's text TOLD by the authors' own Lean function (tested against real Go, not proved from fmt's source: count such statements apart). THE CARD IS WHAT COUNTS. Prove the row's statement (the work); the ties are given (YtcnldbhkppfmmaaDoorTie.lean); close each card by the builder's one call (the guide's Derived/Test/ToyasCard.lean, 'card_holds'). Laid BY PROGRAM, IN A SANDBOX (cutbox-door.mjs). By AI agents, Wed Nov 11 2026. No macro, syntax, notation, axiom, sorry.
-/
import Derived.Test.YtcnldbhkppfmmaaDoorRows
import GoSem.ClaimSeven
namespace Go.Proofs.YtcnldbhkppfmmaaDoor
namespace Rows

/-- THE TIED CARD OF 'chalklinelaw04.WeekMoves'. -/
def weekMovesCard : Claim7 := { stood := { row := weekMovesRow, standIns := [], harness := (true, "36fc4f3a86905aad7713799fd1c9eed5db77de8e51cc8e00952f14451cb589a2"), looks := false }, kinds := [], alts := [], laidByText := true, laidKinds := [.data, .data, .data], laidTests := true, laidLooks := .later }
def WeekMovesCardSaid : Prop := Claim7.holds Tryd.pinned (.plain (OpenSpec.ofChange weekMovesSpec)) weekMovesCard

/-- THE TIED CARD OF 'chalklinelaw04.WeekRoundTrip'. -/
def weekRoundTripCard : Claim7 := { stood := { row := weekRoundTripRow, standIns := [], harness := (true, "36fc4f3a86905aad7713799fd1c9eed5db77de8e51cc8e00952f14451cb589a2"), looks := false }, kinds := [], alts := [], laidByText := true, laidKinds := [.data, .data, .data], laidTests := true, laidLooks := .later }
def WeekRoundTripCardSaid : Prop := Claim7.holds Tryd.pinned (.plain (OpenSpec.ofChange weekRoundTripSpec)) weekRoundTripCard

/-- THE TIED CARD OF 'chalklinelaw04.WeekDifference'. -/
def weekDifferenceCard : Claim7 := { stood := { row := weekDifferenceRow, standIns := [], harness := (true, "36fc4f3a86905aad7713799fd1c9eed5db77de8e51cc8e00952f14451cb589a2"), looks := false }, kinds := [], alts := [], laidByText := true, laidKinds := [.data, .data, .data], laidTests := true, laidLooks := .later }
def WeekDifferenceCardSaid : Prop := Claim7.holds Tryd.pinned (.plain (OpenSpec.ofChange weekDifferenceSpec)) weekDifferenceCard

/-- THE TIED CARD OF 'chalklinelaw04.WeekEnumerates'. -/
def weekEnumeratesCard : Claim7 := { stood := { row := weekEnumeratesRow, standIns := [], harness := (true, "36fc4f3a86905aad7713799fd1c9eed5db77de8e51cc8e00952f14451cb589a2"), looks := false }, kinds := [], alts := [], laidByText := true, laidKinds := [.data, .data, .data], laidTests := true, laidLooks := .later }
def WeekEnumeratesCardSaid : Prop := Claim7.holds Tryd.pinned (.plain (OpenSpec.ofChange weekEnumeratesSpec)) weekEnumeratesCard

/-- THE TIED CARD OF 'chalklinelaw04.WeekBijection'. -/
def weekBijectionCard : Claim7 := { stood := { row := weekBijectionRow, standIns := [], harness := (true, "36fc4f3a86905aad7713799fd1c9eed5db77de8e51cc8e00952f14451cb589a2"), looks := false }, kinds := [], alts := [], laidByText := true, laidKinds := [.data, .data, .data], laidTests := true, laidLooks := .later }
def WeekBijectionCardSaid : Prop := Claim7.holds Tryd.pinned (.plain (OpenSpec.ofChange weekBijectionSpec)) weekBijectionCard

/-- THE TIED CARD OF 'chalklinelaw04.WeekBytes'. -/
def weekBytesCard : Claim7 := { stood := { row := weekBytesRow, standIns := [], harness := (true, "36fc4f3a86905aad7713799fd1c9eed5db77de8e51cc8e00952f14451cb589a2"), looks := false }, kinds := [], alts := [], laidByText := true, laidKinds := [.data, .data, .data], laidTests := true, laidLooks := .later }
def WeekBytesCardSaid : Prop := Claim7.holds Tryd.pinned (.plain (OpenSpec.ofChange weekBytesSpec)) weekBytesCard

/-- THE SECOND FORM's CARD OF 'chalklinelaw04.WeekMoves'. -/
def weekMovesUptoCard : Claim7 := { stood := { row := weekMovesUptoRow, standIns := [], harness := (true, "36fc4f3a86905aad7713799fd1c9eed5db77de8e51cc8e00952f14451cb589a2"), looks := false }, kinds := [], alts := [], laidByText := true, laidKinds := [.data, .data, .data], laidTests := true, laidLooks := .later }
def WeekMovesUptoCardSaid : Prop := Claim7.holds Tryd.pinned (.plain (OpenSpec.upto weekMovesSpec)) weekMovesUptoCard

/-- THE SECOND FORM's CARD OF 'chalklinelaw04.WeekRoundTrip'. -/
def weekRoundTripUptoCard : Claim7 := { stood := { row := weekRoundTripUptoRow, standIns := [], harness := (true, "36fc4f3a86905aad7713799fd1c9eed5db77de8e51cc8e00952f14451cb589a2"), looks := false }, kinds := [], alts := [], laidByText := true, laidKinds := [.data, .data, .data], laidTests := true, laidLooks := .later }
def WeekRoundTripUptoCardSaid : Prop := Claim7.holds Tryd.pinned (.plain (OpenSpec.upto weekRoundTripSpec)) weekRoundTripUptoCard

/-- THE SECOND FORM's CARD OF 'chalklinelaw04.WeekDifference'. -/
def weekDifferenceUptoCard : Claim7 := { stood := { row := weekDifferenceUptoRow, standIns := [], harness := (true, "36fc4f3a86905aad7713799fd1c9eed5db77de8e51cc8e00952f14451cb589a2"), looks := false }, kinds := [], alts := [], laidByText := true, laidKinds := [.data, .data, .data], laidTests := true, laidLooks := .later }
def WeekDifferenceUptoCardSaid : Prop := Claim7.holds Tryd.pinned (.plain (OpenSpec.upto weekDifferenceSpec)) weekDifferenceUptoCard

/-- THE SECOND FORM's CARD OF 'chalklinelaw04.WeekEnumerates'. -/
def weekEnumeratesUptoCard : Claim7 := { stood := { row := weekEnumeratesUptoRow, standIns := [], harness := (true, "36fc4f3a86905aad7713799fd1c9eed5db77de8e51cc8e00952f14451cb589a2"), looks := false }, kinds := [], alts := [], laidByText := true, laidKinds := [.data, .data, .data], laidTests := true, laidLooks := .later }
def WeekEnumeratesUptoCardSaid : Prop := Claim7.holds Tryd.pinned (.plain (OpenSpec.upto weekEnumeratesSpec)) weekEnumeratesUptoCard

/-- THE SECOND FORM's CARD OF 'chalklinelaw04.WeekBijection'. -/
def weekBijectionUptoCard : Claim7 := { stood := { row := weekBijectionUptoRow, standIns := [], harness := (true, "36fc4f3a86905aad7713799fd1c9eed5db77de8e51cc8e00952f14451cb589a2"), looks := false }, kinds := [], alts := [], laidByText := true, laidKinds := [.data, .data, .data], laidTests := true, laidLooks := .later }
def WeekBijectionUptoCardSaid : Prop := Claim7.holds Tryd.pinned (.plain (OpenSpec.upto weekBijectionSpec)) weekBijectionUptoCard

/-- THE SECOND FORM's CARD OF 'chalklinelaw04.WeekBytes'. -/
def weekBytesUptoCard : Claim7 := { stood := { row := weekBytesUptoRow, standIns := [], harness := (true, "36fc4f3a86905aad7713799fd1c9eed5db77de8e51cc8e00952f14451cb589a2"), looks := false }, kinds := [], alts := [], laidByText := true, laidKinds := [.data, .data, .data], laidTests := true, laidLooks := .later }
def WeekBytesUptoCardSaid : Prop := Claim7.holds Tryd.pinned (.plain (OpenSpec.upto weekBytesSpec)) weekBytesUptoCard
end Rows
end Go.Proofs.YtcnldbhkppfmmaaDoor
