/-
  DERIVED. GIVEN WITH THE SEED: THE CARDS: each row of YtpkjlefincabiaaDoorRows.lean that lists a variable, with what it lists TIED to the program's text (the seventh form; the later family's looks); each row that meets fmt, with fmt's text TOLD by the authors' own Lean function (tested against real Go, not proved from fmt's source: count such statements apart). THE CARD IS WHAT COUNTS. Prove the row's statement (the work); the ties are given (YtpkjlefincabiaaDoorTie.lean); close each card by the builder's one call (the guide's Derived/Test/ToyasCard.lean, 'card_holds'). Laid BY PROGRAM, IN A SANDBOX (cutbox-door.mjs). By AI agents, Wed Nov 11 2026. No macro, syntax, notation, axiom, sorry.
-/
import Derived.Test.YtpkjlefincabiaaDoorRows
import GoSem.ClaimSeven
namespace Go.Proofs.YtpkjlefincabiaaDoor
namespace Rows

/-- THE TIED CARD OF 'cooperagelaw3.NamesLong'. -/
def namesLongCard : Claim7 := { stood := { row := namesLongRow, standIns := [], harness := (true, "332f8b875e85a65038924f5638e8b964870718db2b005477ee031b4a6f902c7d"), looks := false }, kinds := [], alts := [], laidByText := true, laidKinds := [.data, .pinned], laidTests := true, laidLooks := .later }
def NamesLongCardSaid : Prop := Claim7.holds Tryd.pinned (.plain (OpenSpec.ofChange namesLongSpec)) namesLongCard

/-- THE TIED CARD OF 'cooperagelaw3.NamesTell'. -/
def namesTellCard : Claim7 := { stood := { row := namesTellRow, standIns := [], harness := (true, "332f8b875e85a65038924f5638e8b964870718db2b005477ee031b4a6f902c7d"), looks := false }, kinds := [], alts := [], laidByText := true, laidKinds := [.data, .pinned], laidTests := true, laidLooks := .later }
def NamesTellCardSaid : Prop := Claim7.holds Tryd.pinned (.plain (OpenSpec.ofChange namesTellSpec)) namesTellCard

/-- THE TIED CARD OF 'cooperagelaw3.NamesCut'. -/
def namesCutCard : Claim7 := { stood := { row := namesCutRow, standIns := [], harness := (true, "332f8b875e85a65038924f5638e8b964870718db2b005477ee031b4a6f902c7d"), looks := false }, kinds := [], alts := [], laidByText := true, laidKinds := [.data, .pinned], laidTests := true, laidLooks := .later }
def NamesCutCardSaid : Prop := Claim7.holds Tryd.pinned (.plain (OpenSpec.ofChange namesCutSpec)) namesCutCard

/-- THE TIED CARD OF 'cooperagelaw3.NamesSigns'. -/
def namesSignsCard : Claim7 := { stood := { row := namesSignsRow, standIns := [], harness := (true, "332f8b875e85a65038924f5638e8b964870718db2b005477ee031b4a6f902c7d"), looks := false }, kinds := [], alts := [], laidByText := true, laidKinds := [.data, .pinned], laidTests := true, laidLooks := .later }
def NamesSignsCardSaid : Prop := Claim7.holds Tryd.pinned (.plain (OpenSpec.ofChange namesSignsSpec)) namesSignsCard

/-- THE TIED CARD OF 'cooperagelaw12.GroupsMany'. -/
def groupsManyCard : Claim7 := { stood := { row := groupsManyRow, standIns := [], harness := (true, "332f8b875e85a65038924f5638e8b964870718db2b005477ee031b4a6f902c7d"), looks := false }, kinds := [], alts := [], laidByText := true, laidKinds := [.data, .pinned], laidTests := true, laidLooks := .later }
def GroupsManyCardSaid : Prop := Claim7.holds Tryd.pinned (.plain (OpenSpec.ofChange groupsManySpec)) groupsManyCard

/-- THE TIED CARD OF 'cooperagelaw12.GroupsPlay'. -/
def groupsPlayCard : Claim7 := { stood := { row := groupsPlayRow, standIns := [], harness := (true, "332f8b875e85a65038924f5638e8b964870718db2b005477ee031b4a6f902c7d"), looks := false }, kinds := [], alts := [], laidByText := true, laidKinds := [.data, .pinned], laidTests := true, laidLooks := .later }
def GroupsPlayCardSaid : Prop := Claim7.holds Tryd.pinned (.plain (OpenSpec.ofChange groupsPlaySpec)) groupsPlayCard

/-- THE SECOND FORM's CARD OF 'cooperagelaw3.NamesLong'. -/
def namesLongUptoCard : Claim7 := { stood := { row := namesLongUptoRow, standIns := [], harness := (true, "332f8b875e85a65038924f5638e8b964870718db2b005477ee031b4a6f902c7d"), looks := false }, kinds := [], alts := [], laidByText := true, laidKinds := [.data, .pinned], laidTests := true, laidLooks := .later }
def NamesLongUptoCardSaid : Prop := Claim7.holds Tryd.pinned (.plain (OpenSpec.upto namesLongSpec)) namesLongUptoCard

/-- THE SECOND FORM's CARD OF 'cooperagelaw3.NamesTell'. -/
def namesTellUptoCard : Claim7 := { stood := { row := namesTellUptoRow, standIns := [], harness := (true, "332f8b875e85a65038924f5638e8b964870718db2b005477ee031b4a6f902c7d"), looks := false }, kinds := [], alts := [], laidByText := true, laidKinds := [.data, .pinned], laidTests := true, laidLooks := .later }
def NamesTellUptoCardSaid : Prop := Claim7.holds Tryd.pinned (.plain (OpenSpec.upto namesTellSpec)) namesTellUptoCard

/-- THE SECOND FORM's CARD OF 'cooperagelaw3.NamesCut'. -/
def namesCutUptoCard : Claim7 := { stood := { row := namesCutUptoRow, standIns := [], harness := (true, "332f8b875e85a65038924f5638e8b964870718db2b005477ee031b4a6f902c7d"), looks := false }, kinds := [], alts := [], laidByText := true, laidKinds := [.data, .pinned], laidTests := true, laidLooks := .later }
def NamesCutUptoCardSaid : Prop := Claim7.holds Tryd.pinned (.plain (OpenSpec.upto namesCutSpec)) namesCutUptoCard

/-- THE SECOND FORM's CARD OF 'cooperagelaw3.NamesSigns'. -/
def namesSignsUptoCard : Claim7 := { stood := { row := namesSignsUptoRow, standIns := [], harness := (true, "332f8b875e85a65038924f5638e8b964870718db2b005477ee031b4a6f902c7d"), looks := false }, kinds := [], alts := [], laidByText := true, laidKinds := [.data, .pinned], laidTests := true, laidLooks := .later }
def NamesSignsUptoCardSaid : Prop := Claim7.holds Tryd.pinned (.plain (OpenSpec.upto namesSignsSpec)) namesSignsUptoCard

/-- THE SECOND FORM's CARD OF 'cooperagelaw12.GroupsMany'. -/
def groupsManyUptoCard : Claim7 := { stood := { row := groupsManyUptoRow, standIns := [], harness := (true, "332f8b875e85a65038924f5638e8b964870718db2b005477ee031b4a6f902c7d"), looks := false }, kinds := [], alts := [], laidByText := true, laidKinds := [.data, .pinned], laidTests := true, laidLooks := .later }
def GroupsManyUptoCardSaid : Prop := Claim7.holds Tryd.pinned (.plain (OpenSpec.upto groupsManySpec)) groupsManyUptoCard

/-- THE SECOND FORM's CARD OF 'cooperagelaw12.GroupsPlay'. -/
def groupsPlayUptoCard : Claim7 := { stood := { row := groupsPlayUptoRow, standIns := [], harness := (true, "332f8b875e85a65038924f5638e8b964870718db2b005477ee031b4a6f902c7d"), looks := false }, kinds := [], alts := [], laidByText := true, laidKinds := [.data, .pinned], laidTests := true, laidLooks := .later }
def GroupsPlayUptoCardSaid : Prop := Claim7.holds Tryd.pinned (.plain (OpenSpec.upto groupsPlaySpec)) groupsPlayUptoCard
end Rows
end Go.Proofs.YtpkjlefincabiaaDoor
