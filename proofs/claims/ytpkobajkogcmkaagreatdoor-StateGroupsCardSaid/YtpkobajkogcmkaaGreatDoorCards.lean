/-
  DERIVED. GIVEN WITH THE SEED: THE CARDS: each row of YtpkobajkogcmkaaGreatDoorRows.lean that lists a variable, with what it lists TIED to the program's text (the seventh form; the later family's looks); each row that meets fmt, with fmt's text TOLD by the authors' own Lean function (tested against real Go, not proved from fmt's source: count such statements apart). THE CARD IS WHAT COUNTS. Prove the row's statement (the work); the ties are given (YtpkobajkogcmkaaGreatDoorTie.lean); close each card by the builder's one call (the guide's Derived/Test/ToyasCard.lean, 'card_holds'). Laid BY PROGRAM, IN A SANDBOX (cutbox-door.mjs). By AI agents, Wed Nov 11 2026. No macro, syntax, notation, axiom, sorry.
-/
import Derived.Test.YtpkobajkogcmkaaGreatDoorRows
import GoSem.ClaimSeven
namespace Go.Proofs.YtpkobajkogcmkaaGreatDoor
namespace Rows

/-- THE TIED CARD OF 'cooperagelaw16.StateOnce'. -/
def stateOnceCard : Claim7 := { stood := { row := stateOnceRow, standIns := [], harness := (true, "c5f555b6959b3ad6e747c0310eb42fbcd97f6bddc681ab90ddddcccd76c1899e"), looks := true }, kinds := [], alts := [], laidByText := true, laidKinds := [.data, .pinned], laidTests := true, laidLooks := .later }
def StateOnceCardSaid : Prop := Claim7.holds Tryz.pinned (.plain (OpenSpec.ofChange stateOnceSpec)) stateOnceCard

/-- THE TIED CARD OF 'cooperagelaw16.StateReads'. -/
def stateReadsCard : Claim7 := { stood := { row := stateReadsRow, standIns := [], harness := (true, "c5f555b6959b3ad6e747c0310eb42fbcd97f6bddc681ab90ddddcccd76c1899e"), looks := true }, kinds := [], alts := [], laidByText := true, laidKinds := [.data, .pinned], laidTests := true, laidLooks := .later }
def StateReadsCardSaid : Prop := Claim7.holds Tryz.pinned (.plain (OpenSpec.ofChange stateReadsSpec)) stateReadsCard

/-- THE TIED CARD OF 'cooperagelaw16.StateStores'. -/
def stateStoresCard : Claim7 := { stood := { row := stateStoresRow, standIns := [], harness := (true, "c5f555b6959b3ad6e747c0310eb42fbcd97f6bddc681ab90ddddcccd76c1899e"), looks := true }, kinds := [], alts := [], laidByText := true, laidKinds := [.data, .pinned], laidTests := true, laidLooks := .later }
def StateStoresCardSaid : Prop := Claim7.holds Tryz.pinned (.plain (OpenSpec.ofChange stateStoresSpec)) stateStoresCard

/-- THE TIED CARD OF 'cooperagelaw16.StateSince'. -/
def stateSinceCard : Claim7 := { stood := { row := stateSinceRow, standIns := [], harness := (true, "c5f555b6959b3ad6e747c0310eb42fbcd97f6bddc681ab90ddddcccd76c1899e"), looks := true }, kinds := [], alts := [], laidByText := true, laidKinds := [.data, .pinned], laidTests := true, laidLooks := .later }
def StateSinceCardSaid : Prop := Claim7.holds Tryz.pinned (.plain (OpenSpec.ofChange stateSinceSpec)) stateSinceCard

/-- THE TIED CARD OF 'cooperagelaw16.StateCleans'. -/
def stateCleansCard : Claim7 := { stood := { row := stateCleansRow, standIns := [], harness := (true, "c5f555b6959b3ad6e747c0310eb42fbcd97f6bddc681ab90ddddcccd76c1899e"), looks := true }, kinds := [], alts := [], laidByText := true, laidKinds := [.data, .pinned], laidTests := true, laidLooks := .later }
def StateCleansCardSaid : Prop := Claim7.holds Tryz.pinned (.plain (OpenSpec.ofChange stateCleansSpec)) stateCleansCard

/-- THE TIED CARD OF 'cooperagelaw16.StateGroups'. -/
def stateGroupsCard : Claim7 := { stood := { row := stateGroupsRow, standIns := [], harness := (true, "c5f555b6959b3ad6e747c0310eb42fbcd97f6bddc681ab90ddddcccd76c1899e"), looks := true }, kinds := [], alts := [], laidByText := true, laidKinds := [.data, .pinned], laidTests := true, laidLooks := .later }
def StateGroupsCardSaid : Prop := Claim7.holds Tryz.pinned (.plain (OpenSpec.ofChange stateGroupsSpec)) stateGroupsCard

/-- THE TIED CARD OF 'cooperagelaw16.StateErrors'. -/
def stateErrorsCard : Claim7 := { stood := { row := stateErrorsRow, standIns := [], harness := (true, "c5f555b6959b3ad6e747c0310eb42fbcd97f6bddc681ab90ddddcccd76c1899e"), looks := true }, kinds := [], alts := [], laidByText := true, laidKinds := [.data, .pinned], laidTests := true, laidLooks := .later }
def StateErrorsCardSaid : Prop := Claim7.holds Tryz.pinned (.plain (OpenSpec.ofChange stateErrorsSpec)) stateErrorsCard

/-- THE TIED CARD OF 'cooperagelaw26.TraceAlike'. -/
def traceAlikeCard : Claim7 := { stood := { row := traceAlikeRow, standIns := [], harness := (true, "c5f555b6959b3ad6e747c0310eb42fbcd97f6bddc681ab90ddddcccd76c1899e"), looks := true }, kinds := [], alts := [], laidByText := true, laidKinds := [.data, .pinned], laidTests := true, laidLooks := .later }
def TraceAlikeCardSaid : Prop := Claim7.holds Tryz.pinned (.plain (OpenSpec.ofChange traceAlikeSpec)) traceAlikeCard

/-- THE TIED CARD OF 'cooperagelaw26.TraceAnswers'. -/
def traceAnswersCard : Claim7 := { stood := { row := traceAnswersRow, standIns := [], harness := (true, "c5f555b6959b3ad6e747c0310eb42fbcd97f6bddc681ab90ddddcccd76c1899e"), looks := true }, kinds := [], alts := [], laidByText := true, laidKinds := [.data, .pinned], laidTests := true, laidLooks := .later }
def TraceAnswersCardSaid : Prop := Claim7.holds Tryz.pinned (.plain (OpenSpec.ofChange traceAnswersSpec)) traceAnswersCard

/-- THE TIED CARD OF 'cooperagelaw16.StateBytes'. -/
def stateBytesCard : Claim7 := { stood := { row := stateBytesRow, standIns := [], harness := (true, "c5f555b6959b3ad6e747c0310eb42fbcd97f6bddc681ab90ddddcccd76c1899e"), looks := true }, kinds := [], alts := [], laidByText := true, laidKinds := [.data, .pinned], laidTests := true, laidLooks := .later }
def StateBytesCardSaid : Prop := Claim7.holds Tryz.pinned (.plain (OpenSpec.ofChange stateBytesSpec)) stateBytesCard

/-- THE SECOND FORM's CARD OF 'cooperagelaw16.StateOnce'. -/
def stateOnceUptoCard : Claim7 := { stood := { row := stateOnceUptoRow, standIns := [], harness := (true, "c5f555b6959b3ad6e747c0310eb42fbcd97f6bddc681ab90ddddcccd76c1899e"), looks := true }, kinds := [], alts := [], laidByText := true, laidKinds := [.data, .pinned], laidTests := true, laidLooks := .later }
def StateOnceUptoCardSaid : Prop := Claim7.holds Tryz.pinned (.plain (OpenSpec.upto stateOnceSpec)) stateOnceUptoCard

/-- THE SECOND FORM's CARD OF 'cooperagelaw16.StateReads'. -/
def stateReadsUptoCard : Claim7 := { stood := { row := stateReadsUptoRow, standIns := [], harness := (true, "c5f555b6959b3ad6e747c0310eb42fbcd97f6bddc681ab90ddddcccd76c1899e"), looks := true }, kinds := [], alts := [], laidByText := true, laidKinds := [.data, .pinned], laidTests := true, laidLooks := .later }
def StateReadsUptoCardSaid : Prop := Claim7.holds Tryz.pinned (.plain (OpenSpec.upto stateReadsSpec)) stateReadsUptoCard

/-- THE SECOND FORM's CARD OF 'cooperagelaw16.StateStores'. -/
def stateStoresUptoCard : Claim7 := { stood := { row := stateStoresUptoRow, standIns := [], harness := (true, "c5f555b6959b3ad6e747c0310eb42fbcd97f6bddc681ab90ddddcccd76c1899e"), looks := true }, kinds := [], alts := [], laidByText := true, laidKinds := [.data, .pinned], laidTests := true, laidLooks := .later }
def StateStoresUptoCardSaid : Prop := Claim7.holds Tryz.pinned (.plain (OpenSpec.upto stateStoresSpec)) stateStoresUptoCard

/-- THE SECOND FORM's CARD OF 'cooperagelaw16.StateSince'. -/
def stateSinceUptoCard : Claim7 := { stood := { row := stateSinceUptoRow, standIns := [], harness := (true, "c5f555b6959b3ad6e747c0310eb42fbcd97f6bddc681ab90ddddcccd76c1899e"), looks := true }, kinds := [], alts := [], laidByText := true, laidKinds := [.data, .pinned], laidTests := true, laidLooks := .later }
def StateSinceUptoCardSaid : Prop := Claim7.holds Tryz.pinned (.plain (OpenSpec.upto stateSinceSpec)) stateSinceUptoCard

/-- THE SECOND FORM's CARD OF 'cooperagelaw16.StateCleans'. -/
def stateCleansUptoCard : Claim7 := { stood := { row := stateCleansUptoRow, standIns := [], harness := (true, "c5f555b6959b3ad6e747c0310eb42fbcd97f6bddc681ab90ddddcccd76c1899e"), looks := true }, kinds := [], alts := [], laidByText := true, laidKinds := [.data, .pinned], laidTests := true, laidLooks := .later }
def StateCleansUptoCardSaid : Prop := Claim7.holds Tryz.pinned (.plain (OpenSpec.upto stateCleansSpec)) stateCleansUptoCard

/-- THE SECOND FORM's CARD OF 'cooperagelaw16.StateGroups'. -/
def stateGroupsUptoCard : Claim7 := { stood := { row := stateGroupsUptoRow, standIns := [], harness := (true, "c5f555b6959b3ad6e747c0310eb42fbcd97f6bddc681ab90ddddcccd76c1899e"), looks := true }, kinds := [], alts := [], laidByText := true, laidKinds := [.data, .pinned], laidTests := true, laidLooks := .later }
def StateGroupsUptoCardSaid : Prop := Claim7.holds Tryz.pinned (.plain (OpenSpec.upto stateGroupsSpec)) stateGroupsUptoCard

/-- THE SECOND FORM's CARD OF 'cooperagelaw16.StateErrors'. -/
def stateErrorsUptoCard : Claim7 := { stood := { row := stateErrorsUptoRow, standIns := [], harness := (true, "c5f555b6959b3ad6e747c0310eb42fbcd97f6bddc681ab90ddddcccd76c1899e"), looks := true }, kinds := [], alts := [], laidByText := true, laidKinds := [.data, .pinned], laidTests := true, laidLooks := .later }
def StateErrorsUptoCardSaid : Prop := Claim7.holds Tryz.pinned (.plain (OpenSpec.upto stateErrorsSpec)) stateErrorsUptoCard

/-- THE SECOND FORM's CARD OF 'cooperagelaw26.TraceAlike'. -/
def traceAlikeUptoCard : Claim7 := { stood := { row := traceAlikeUptoRow, standIns := [], harness := (true, "c5f555b6959b3ad6e747c0310eb42fbcd97f6bddc681ab90ddddcccd76c1899e"), looks := true }, kinds := [], alts := [], laidByText := true, laidKinds := [.data, .pinned], laidTests := true, laidLooks := .later }
def TraceAlikeUptoCardSaid : Prop := Claim7.holds Tryz.pinned (.plain (OpenSpec.upto traceAlikeSpec)) traceAlikeUptoCard

/-- THE SECOND FORM's CARD OF 'cooperagelaw26.TraceAnswers'. -/
def traceAnswersUptoCard : Claim7 := { stood := { row := traceAnswersUptoRow, standIns := [], harness := (true, "c5f555b6959b3ad6e747c0310eb42fbcd97f6bddc681ab90ddddcccd76c1899e"), looks := true }, kinds := [], alts := [], laidByText := true, laidKinds := [.data, .pinned], laidTests := true, laidLooks := .later }
def TraceAnswersUptoCardSaid : Prop := Claim7.holds Tryz.pinned (.plain (OpenSpec.upto traceAnswersSpec)) traceAnswersUptoCard

/-- THE SECOND FORM's CARD OF 'cooperagelaw16.StateBytes'. -/
def stateBytesUptoCard : Claim7 := { stood := { row := stateBytesUptoRow, standIns := [], harness := (true, "c5f555b6959b3ad6e747c0310eb42fbcd97f6bddc681ab90ddddcccd76c1899e"), looks := true }, kinds := [], alts := [], laidByText := true, laidKinds := [.data, .pinned], laidTests := true, laidLooks := .later }
def StateBytesUptoCardSaid : Prop := Claim7.holds Tryz.pinned (.plain (OpenSpec.upto stateBytesSpec)) stateBytesUptoCard
end Rows
end Go.Proofs.YtpkobajkogcmkaaGreatDoor
