/-
  DERIVED. GIVEN WITH THE SEED: THE CARDS: each row of YtifkijepedhbgaaDoorRows.lean that lists a variable, with what it lists TIED to the program's text (the seventh form; the later family's looks); each row that meets fmt, with fmt's text TOLD by the authors' own Lean function (tested against real Go, not proved from fmt's source: count such statements apart). THE CARD IS WHAT COUNTS. Prove the row's statement (the work); the ties are given (YtifkijepedhbgaaDoorTie.lean); close each card by the builder's one call (the guide's Derived/Test/ToyasCard.lean, 'card_holds'). Laid BY PROGRAM, IN A SANDBOX (cutbox-door.mjs). By AI agents, Wed Nov 11 2026. No macro, syntax, notation, axiom, sorry.
-/
import Derived.Test.YtifkijepedhbgaaDoorRows
import GoSem.ClaimSeven
namespace Go.Proofs.YtifkijepedhbgaaDoor
namespace Rows

/-- THE TIED CARD OF 'cooperagelaw21.ServiceChecks'. -/
def serviceChecksCard : Claim7 := { stood := { row := serviceChecksRow, standIns := [], harness := (true, "05f09bf68f8fd72e32062120dde3ce53175e549b5fe967c69925f5f5b62b9971"), looks := true }, kinds := [], alts := [], laidByText := true, laidKinds := [.data, .pinned], laidTests := true, laidLooks := .later }
def ServiceChecksCardSaid : Prop := Claim7.holds Tryd.pinned (.plain (OpenSpec.ofChange serviceChecksSpec)) serviceChecksCard

/-- THE TIED CARD OF 'cooperagelaw21.ServiceRight'. -/
def serviceRightCard : Claim7 := { stood := { row := serviceRightRow, standIns := [], harness := (true, "05f09bf68f8fd72e32062120dde3ce53175e549b5fe967c69925f5f5b62b9971"), looks := true }, kinds := [], alts := [], laidByText := true, laidKinds := [.data, .pinned], laidTests := true, laidLooks := .later }
def ServiceRightCardSaid : Prop := Claim7.holds Tryd.pinned (.plain (OpenSpec.ofChange serviceRightSpec)) serviceRightCard

/-- THE TIED CARD OF 'cooperagelaw21.ServiceOrder'. -/
def serviceOrderCard : Claim7 := { stood := { row := serviceOrderRow, standIns := [], harness := (true, "05f09bf68f8fd72e32062120dde3ce53175e549b5fe967c69925f5f5b62b9971"), looks := true }, kinds := [], alts := [], laidByText := true, laidKinds := [.data, .pinned], laidTests := true, laidLooks := .later }
def ServiceOrderCardSaid : Prop := Claim7.holds Tryd.pinned (.plain (OpenSpec.ofChange serviceOrderSpec)) serviceOrderCard

/-- THE TIED CARD OF 'cooperagelaw10.CommandBytes'. -/
def commandBytesCard : Claim7 := { stood := { row := commandBytesRow, standIns := [], harness := (true, "05f09bf68f8fd72e32062120dde3ce53175e549b5fe967c69925f5f5b62b9971"), looks := true }, kinds := [], alts := [], laidByText := true, laidKinds := [.data, .pinned], laidTests := true, laidLooks := .later }
def CommandBytesCardSaid : Prop := Claim7.holds Tryd.pinned (.plain (OpenSpec.ofChange commandBytesSpec)) commandBytesCard

/-- THE TIED CARD OF 'cooperagelaw10.CommandReads'. -/
def commandReadsCard : Claim7 := { stood := { row := commandReadsRow, standIns := [], harness := (true, "05f09bf68f8fd72e32062120dde3ce53175e549b5fe967c69925f5f5b62b9971"), looks := true }, kinds := [], alts := [], laidByText := true, laidKinds := [.data, .pinned], laidTests := true, laidLooks := .later }
def CommandReadsCardSaid : Prop := Claim7.holds Tryd.pinned (.plain (OpenSpec.ofChange commandReadsSpec)) commandReadsCard

/-- THE TIED CARD OF 'cooperagelaw10.CommandSame'. -/
def commandSameCard : Claim7 := { stood := { row := commandSameRow, standIns := [], harness := (true, "05f09bf68f8fd72e32062120dde3ce53175e549b5fe967c69925f5f5b62b9971"), looks := true }, kinds := [], alts := [], laidByText := true, laidKinds := [.data, .pinned], laidTests := true, laidLooks := .later }
def CommandSameCardSaid : Prop := Claim7.holds Tryd.pinned (.plain (OpenSpec.ofChange commandSameSpec)) commandSameCard

/-- THE TIED CARD OF 'cooperagelaw10.CommandPlain'. -/
def commandPlainCard : Claim7 := { stood := { row := commandPlainRow, standIns := [], harness := (true, "05f09bf68f8fd72e32062120dde3ce53175e549b5fe967c69925f5f5b62b9971"), looks := true }, kinds := [], alts := [], laidByText := true, laidKinds := [.data, .pinned], laidTests := true, laidLooks := .later }
def CommandPlainCardSaid : Prop := Claim7.holds Tryd.pinned (.plain (OpenSpec.ofChange commandPlainSpec)) commandPlainCard

/-- THE TIED CARD OF 'cooperagelaw19.WireBytes'. -/
def wireBytesCard : Claim7 := { stood := { row := wireBytesRow, standIns := [], harness := (true, "05f09bf68f8fd72e32062120dde3ce53175e549b5fe967c69925f5f5b62b9971"), looks := true }, kinds := [], alts := [], laidByText := true, laidKinds := [.data, .pinned], laidTests := true, laidLooks := .later }
def WireBytesCardSaid : Prop := Claim7.holds Tryd.pinned (.plain (OpenSpec.ofChange wireBytesSpec)) wireBytesCard

/-- THE TIED CARD OF 'cooperagelaw19.WireTorn'. -/
def wireTornCard : Claim7 := { stood := { row := wireTornRow, standIns := [], harness := (true, "05f09bf68f8fd72e32062120dde3ce53175e549b5fe967c69925f5f5b62b9971"), looks := true }, kinds := [], alts := [], laidByText := true, laidKinds := [.data, .pinned], laidTests := true, laidLooks := .later }
def WireTornCardSaid : Prop := Claim7.holds Tryd.pinned (.plain (OpenSpec.ofChange wireTornSpec)) wireTornCard

/-- THE TIED CARD OF 'cooperagelaw19.WireReads'. -/
def wireReadsCard : Claim7 := { stood := { row := wireReadsRow, standIns := [], harness := (true, "05f09bf68f8fd72e32062120dde3ce53175e549b5fe967c69925f5f5b62b9971"), looks := true }, kinds := [], alts := [], laidByText := true, laidKinds := [.data, .pinned], laidTests := true, laidLooks := .later }
def WireReadsCardSaid : Prop := Claim7.holds Tryd.pinned (.plain (OpenSpec.ofChange wireReadsSpec)) wireReadsCard

/-- THE TIED CARD OF 'cooperagelaw19.WireSame'. -/
def wireSameCard : Claim7 := { stood := { row := wireSameRow, standIns := [], harness := (true, "05f09bf68f8fd72e32062120dde3ce53175e549b5fe967c69925f5f5b62b9971"), looks := true }, kinds := [], alts := [], laidByText := true, laidKinds := [.data, .pinned], laidTests := true, laidLooks := .later }
def WireSameCardSaid : Prop := Claim7.holds Tryd.pinned (.plain (OpenSpec.ofChange wireSameSpec)) wireSameCard

/-- THE SECOND FORM's CARD OF 'cooperagelaw21.ServiceChecks'. -/
def serviceChecksUptoCard : Claim7 := { stood := { row := serviceChecksUptoRow, standIns := [], harness := (true, "05f09bf68f8fd72e32062120dde3ce53175e549b5fe967c69925f5f5b62b9971"), looks := true }, kinds := [], alts := [], laidByText := true, laidKinds := [.data, .pinned], laidTests := true, laidLooks := .later }
def ServiceChecksUptoCardSaid : Prop := Claim7.holds Tryd.pinned (.plain (OpenSpec.upto serviceChecksSpec)) serviceChecksUptoCard

/-- THE SECOND FORM's CARD OF 'cooperagelaw21.ServiceRight'. -/
def serviceRightUptoCard : Claim7 := { stood := { row := serviceRightUptoRow, standIns := [], harness := (true, "05f09bf68f8fd72e32062120dde3ce53175e549b5fe967c69925f5f5b62b9971"), looks := true }, kinds := [], alts := [], laidByText := true, laidKinds := [.data, .pinned], laidTests := true, laidLooks := .later }
def ServiceRightUptoCardSaid : Prop := Claim7.holds Tryd.pinned (.plain (OpenSpec.upto serviceRightSpec)) serviceRightUptoCard

/-- THE SECOND FORM's CARD OF 'cooperagelaw21.ServiceOrder'. -/
def serviceOrderUptoCard : Claim7 := { stood := { row := serviceOrderUptoRow, standIns := [], harness := (true, "05f09bf68f8fd72e32062120dde3ce53175e549b5fe967c69925f5f5b62b9971"), looks := true }, kinds := [], alts := [], laidByText := true, laidKinds := [.data, .pinned], laidTests := true, laidLooks := .later }
def ServiceOrderUptoCardSaid : Prop := Claim7.holds Tryd.pinned (.plain (OpenSpec.upto serviceOrderSpec)) serviceOrderUptoCard

/-- THE SECOND FORM's CARD OF 'cooperagelaw10.CommandBytes'. -/
def commandBytesUptoCard : Claim7 := { stood := { row := commandBytesUptoRow, standIns := [], harness := (true, "05f09bf68f8fd72e32062120dde3ce53175e549b5fe967c69925f5f5b62b9971"), looks := true }, kinds := [], alts := [], laidByText := true, laidKinds := [.data, .pinned], laidTests := true, laidLooks := .later }
def CommandBytesUptoCardSaid : Prop := Claim7.holds Tryd.pinned (.plain (OpenSpec.upto commandBytesSpec)) commandBytesUptoCard

/-- THE SECOND FORM's CARD OF 'cooperagelaw10.CommandReads'. -/
def commandReadsUptoCard : Claim7 := { stood := { row := commandReadsUptoRow, standIns := [], harness := (true, "05f09bf68f8fd72e32062120dde3ce53175e549b5fe967c69925f5f5b62b9971"), looks := true }, kinds := [], alts := [], laidByText := true, laidKinds := [.data, .pinned], laidTests := true, laidLooks := .later }
def CommandReadsUptoCardSaid : Prop := Claim7.holds Tryd.pinned (.plain (OpenSpec.upto commandReadsSpec)) commandReadsUptoCard

/-- THE SECOND FORM's CARD OF 'cooperagelaw10.CommandSame'. -/
def commandSameUptoCard : Claim7 := { stood := { row := commandSameUptoRow, standIns := [], harness := (true, "05f09bf68f8fd72e32062120dde3ce53175e549b5fe967c69925f5f5b62b9971"), looks := true }, kinds := [], alts := [], laidByText := true, laidKinds := [.data, .pinned], laidTests := true, laidLooks := .later }
def CommandSameUptoCardSaid : Prop := Claim7.holds Tryd.pinned (.plain (OpenSpec.upto commandSameSpec)) commandSameUptoCard

/-- THE SECOND FORM's CARD OF 'cooperagelaw10.CommandPlain'. -/
def commandPlainUptoCard : Claim7 := { stood := { row := commandPlainUptoRow, standIns := [], harness := (true, "05f09bf68f8fd72e32062120dde3ce53175e549b5fe967c69925f5f5b62b9971"), looks := true }, kinds := [], alts := [], laidByText := true, laidKinds := [.data, .pinned], laidTests := true, laidLooks := .later }
def CommandPlainUptoCardSaid : Prop := Claim7.holds Tryd.pinned (.plain (OpenSpec.upto commandPlainSpec)) commandPlainUptoCard

/-- THE SECOND FORM's CARD OF 'cooperagelaw19.WireBytes'. -/
def wireBytesUptoCard : Claim7 := { stood := { row := wireBytesUptoRow, standIns := [], harness := (true, "05f09bf68f8fd72e32062120dde3ce53175e549b5fe967c69925f5f5b62b9971"), looks := true }, kinds := [], alts := [], laidByText := true, laidKinds := [.data, .pinned], laidTests := true, laidLooks := .later }
def WireBytesUptoCardSaid : Prop := Claim7.holds Tryd.pinned (.plain (OpenSpec.upto wireBytesSpec)) wireBytesUptoCard

/-- THE SECOND FORM's CARD OF 'cooperagelaw19.WireTorn'. -/
def wireTornUptoCard : Claim7 := { stood := { row := wireTornUptoRow, standIns := [], harness := (true, "05f09bf68f8fd72e32062120dde3ce53175e549b5fe967c69925f5f5b62b9971"), looks := true }, kinds := [], alts := [], laidByText := true, laidKinds := [.data, .pinned], laidTests := true, laidLooks := .later }
def WireTornUptoCardSaid : Prop := Claim7.holds Tryd.pinned (.plain (OpenSpec.upto wireTornSpec)) wireTornUptoCard

/-- THE SECOND FORM's CARD OF 'cooperagelaw19.WireReads'. -/
def wireReadsUptoCard : Claim7 := { stood := { row := wireReadsUptoRow, standIns := [], harness := (true, "05f09bf68f8fd72e32062120dde3ce53175e549b5fe967c69925f5f5b62b9971"), looks := true }, kinds := [], alts := [], laidByText := true, laidKinds := [.data, .pinned], laidTests := true, laidLooks := .later }
def WireReadsUptoCardSaid : Prop := Claim7.holds Tryd.pinned (.plain (OpenSpec.upto wireReadsSpec)) wireReadsUptoCard

/-- THE SECOND FORM's CARD OF 'cooperagelaw19.WireSame'. -/
def wireSameUptoCard : Claim7 := { stood := { row := wireSameUptoRow, standIns := [], harness := (true, "05f09bf68f8fd72e32062120dde3ce53175e549b5fe967c69925f5f5b62b9971"), looks := true }, kinds := [], alts := [], laidByText := true, laidKinds := [.data, .pinned], laidTests := true, laidLooks := .later }
def WireSameUptoCardSaid : Prop := Claim7.holds Tryd.pinned (.plain (OpenSpec.upto wireSameSpec)) wireSameUptoCard
end Rows
end Go.Proofs.YtifkijepedhbgaaDoor
