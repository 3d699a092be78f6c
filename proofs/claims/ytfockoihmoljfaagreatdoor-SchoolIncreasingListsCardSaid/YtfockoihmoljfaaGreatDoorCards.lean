/-
  DERIVED. GIVEN WITH THE SEED: THE CARDS: each row of YtfockoihmoljfaaGreatDoorRows.lean that lists a variable, with what it lists TIED to the program's text (the seventh form; the later family's looks); each row that meets fmt, with fmt's text TOLD by the authors' own Lean function (tested against real Go, not proved from fmt's source: count such statements apart). THE CARD IS WHAT COUNTS. Prove the row's statement (the work); the ties are given (YtfockoihmoljfaaGreatDoorTie.lean); close each card by the builder's one call (the guide's Derived/Test/ToyasCard.lean, 'card_holds'). Laid BY PROGRAM, IN A SANDBOX (cutbox-door.mjs). By AI agents, Wed Nov 11 2026. No macro, syntax, notation, axiom, sorry.
-/
import Derived.Test.YtfockoihmoljfaaGreatDoorRows
import GoSem.ClaimSeven
namespace Go.Proofs.YtfockoihmoljfaaGreatDoor
namespace Rows

/-- THE TIED CARD OF 'chalklinelaw03.SchoolLookupSpec'. -/
def schoolLookupSpecCard : Claim7 := { stood := { row := schoolLookupSpecRow, standIns := [], harness := (true, "8276a535e8f7ce987c4e07cd117cd3405fd16bd79b43555be4f2fc715453abf1"), looks := false }, kinds := [], alts := [], laidByText := true, laidKinds := [.data, .data, .data], laidTests := true, laidLooks := .later }
def SchoolLookupSpecCardSaid : Prop := Claim7.holds Tryz.pinned (.plain (OpenSpec.ofChange schoolLookupSpecSpec)) schoolLookupSpecCard

/-- THE TIED CARD OF 'chalklinelaw03.SchoolCodecSpec'. -/
def schoolCodecSpecCard : Claim7 := { stood := { row := schoolCodecSpecRow, standIns := [], harness := (true, "8276a535e8f7ce987c4e07cd117cd3405fd16bd79b43555be4f2fc715453abf1"), looks := false }, kinds := [], alts := [], laidByText := true, laidKinds := [.data, .data, .data], laidTests := true, laidLooks := .later }
def SchoolCodecSpecCardSaid : Prop := Claim7.holds Tryz.pinned (.plain (OpenSpec.ofChange schoolCodecSpecSpec)) schoolCodecSpecCard

/-- THE TIED CARD OF 'chalklinelaw03.SchoolRoundTrip'. -/
def schoolRoundTripCard : Claim7 := { stood := { row := schoolRoundTripRow, standIns := [], harness := (true, "8276a535e8f7ce987c4e07cd117cd3405fd16bd79b43555be4f2fc715453abf1"), looks := false }, kinds := [], alts := [], laidByText := true, laidKinds := [.data, .data, .data], laidTests := true, laidLooks := .later }
def SchoolRoundTripCardSaid : Prop := Claim7.holds Tryz.pinned (.plain (OpenSpec.ofChange schoolRoundTripSpec)) schoolRoundTripCard

/-- THE TIED CARD OF 'chalklinelaw03.SchoolCanonical'. -/
def schoolCanonicalCard : Claim7 := { stood := { row := schoolCanonicalRow, standIns := [], harness := (true, "8276a535e8f7ce987c4e07cd117cd3405fd16bd79b43555be4f2fc715453abf1"), looks := false }, kinds := [], alts := [], laidByText := true, laidKinds := [.data, .data, .data], laidTests := true, laidLooks := .later }
def SchoolCanonicalCardSaid : Prop := Claim7.holds Tryz.pinned (.plain (OpenSpec.ofChange schoolCanonicalSpec)) schoolCanonicalCard

/-- THE TIED CARD OF 'chalklinelaw03.SchoolFindsNames'. -/
def schoolFindsNamesCard : Claim7 := { stood := { row := schoolFindsNamesRow, standIns := [], harness := (true, "8276a535e8f7ce987c4e07cd117cd3405fd16bd79b43555be4f2fc715453abf1"), looks := false }, kinds := [], alts := [], laidByText := true, laidKinds := [.data, .data, .data], laidTests := true, laidLooks := .later }
def SchoolFindsNamesCardSaid : Prop := Claim7.holds Tryz.pinned (.plain (OpenSpec.ofChange schoolFindsNamesSpec)) schoolFindsNamesCard

/-- THE TIED CARD OF 'chalklinelaw03.SchoolSizeSum'. -/
def schoolSizeSumCard : Claim7 := { stood := { row := schoolSizeSumRow, standIns := [], harness := (true, "8276a535e8f7ce987c4e07cd117cd3405fd16bd79b43555be4f2fc715453abf1"), looks := false }, kinds := [], alts := [], laidByText := true, laidKinds := [.data, .data, .data], laidTests := true, laidLooks := .later }
def SchoolSizeSumCardSaid : Prop := Claim7.holds Tryz.pinned (.plain (OpenSpec.ofChange schoolSizeSumSpec)) schoolSizeSumCard

/-- THE TIED CARD OF 'chalklinelaw03.SchoolIncreasingLists'. -/
def schoolIncreasingListsCard : Claim7 := { stood := { row := schoolIncreasingListsRow, standIns := [], harness := (true, "8276a535e8f7ce987c4e07cd117cd3405fd16bd79b43555be4f2fc715453abf1"), looks := false }, kinds := [], alts := [], laidByText := true, laidKinds := [.data, .data, .data], laidTests := true, laidLooks := .later }
def SchoolIncreasingListsCardSaid : Prop := Claim7.holds Tryz.pinned (.plain (OpenSpec.ofChange schoolIncreasingListsSpec)) schoolIncreasingListsCard

/-- THE SECOND FORM's CARD OF 'chalklinelaw03.SchoolLookupSpec'. -/
def schoolLookupSpecUptoCard : Claim7 := { stood := { row := schoolLookupSpecUptoRow, standIns := [], harness := (true, "8276a535e8f7ce987c4e07cd117cd3405fd16bd79b43555be4f2fc715453abf1"), looks := false }, kinds := [], alts := [], laidByText := true, laidKinds := [.data, .data, .data], laidTests := true, laidLooks := .later }
def SchoolLookupSpecUptoCardSaid : Prop := Claim7.holds Tryz.pinned (.plain (OpenSpec.upto schoolLookupSpecSpec)) schoolLookupSpecUptoCard

/-- THE SECOND FORM's CARD OF 'chalklinelaw03.SchoolCodecSpec'. -/
def schoolCodecSpecUptoCard : Claim7 := { stood := { row := schoolCodecSpecUptoRow, standIns := [], harness := (true, "8276a535e8f7ce987c4e07cd117cd3405fd16bd79b43555be4f2fc715453abf1"), looks := false }, kinds := [], alts := [], laidByText := true, laidKinds := [.data, .data, .data], laidTests := true, laidLooks := .later }
def SchoolCodecSpecUptoCardSaid : Prop := Claim7.holds Tryz.pinned (.plain (OpenSpec.upto schoolCodecSpecSpec)) schoolCodecSpecUptoCard

/-- THE SECOND FORM's CARD OF 'chalklinelaw03.SchoolRoundTrip'. -/
def schoolRoundTripUptoCard : Claim7 := { stood := { row := schoolRoundTripUptoRow, standIns := [], harness := (true, "8276a535e8f7ce987c4e07cd117cd3405fd16bd79b43555be4f2fc715453abf1"), looks := false }, kinds := [], alts := [], laidByText := true, laidKinds := [.data, .data, .data], laidTests := true, laidLooks := .later }
def SchoolRoundTripUptoCardSaid : Prop := Claim7.holds Tryz.pinned (.plain (OpenSpec.upto schoolRoundTripSpec)) schoolRoundTripUptoCard

/-- THE SECOND FORM's CARD OF 'chalklinelaw03.SchoolCanonical'. -/
def schoolCanonicalUptoCard : Claim7 := { stood := { row := schoolCanonicalUptoRow, standIns := [], harness := (true, "8276a535e8f7ce987c4e07cd117cd3405fd16bd79b43555be4f2fc715453abf1"), looks := false }, kinds := [], alts := [], laidByText := true, laidKinds := [.data, .data, .data], laidTests := true, laidLooks := .later }
def SchoolCanonicalUptoCardSaid : Prop := Claim7.holds Tryz.pinned (.plain (OpenSpec.upto schoolCanonicalSpec)) schoolCanonicalUptoCard

/-- THE SECOND FORM's CARD OF 'chalklinelaw03.SchoolFindsNames'. -/
def schoolFindsNamesUptoCard : Claim7 := { stood := { row := schoolFindsNamesUptoRow, standIns := [], harness := (true, "8276a535e8f7ce987c4e07cd117cd3405fd16bd79b43555be4f2fc715453abf1"), looks := false }, kinds := [], alts := [], laidByText := true, laidKinds := [.data, .data, .data], laidTests := true, laidLooks := .later }
def SchoolFindsNamesUptoCardSaid : Prop := Claim7.holds Tryz.pinned (.plain (OpenSpec.upto schoolFindsNamesSpec)) schoolFindsNamesUptoCard

/-- THE SECOND FORM's CARD OF 'chalklinelaw03.SchoolSizeSum'. -/
def schoolSizeSumUptoCard : Claim7 := { stood := { row := schoolSizeSumUptoRow, standIns := [], harness := (true, "8276a535e8f7ce987c4e07cd117cd3405fd16bd79b43555be4f2fc715453abf1"), looks := false }, kinds := [], alts := [], laidByText := true, laidKinds := [.data, .data, .data], laidTests := true, laidLooks := .later }
def SchoolSizeSumUptoCardSaid : Prop := Claim7.holds Tryz.pinned (.plain (OpenSpec.upto schoolSizeSumSpec)) schoolSizeSumUptoCard

/-- THE SECOND FORM's CARD OF 'chalklinelaw03.SchoolIncreasingLists'. -/
def schoolIncreasingListsUptoCard : Claim7 := { stood := { row := schoolIncreasingListsUptoRow, standIns := [], harness := (true, "8276a535e8f7ce987c4e07cd117cd3405fd16bd79b43555be4f2fc715453abf1"), looks := false }, kinds := [], alts := [], laidByText := true, laidKinds := [.data, .data, .data], laidTests := true, laidLooks := .later }
def SchoolIncreasingListsUptoCardSaid : Prop := Claim7.holds Tryz.pinned (.plain (OpenSpec.upto schoolIncreasingListsSpec)) schoolIncreasingListsUptoCard
end Rows
end Go.Proofs.YtfockoihmoljfaaGreatDoor
