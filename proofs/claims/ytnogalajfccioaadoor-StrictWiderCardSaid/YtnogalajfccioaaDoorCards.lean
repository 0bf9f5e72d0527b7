/-
  DERIVED. GIVEN WITH THE SEED: THE CARDS: each row of YtnogalajfccioaaDoorRows.lean that lists a variable, with what it lists TIED to the program's text (the seventh form; the later family's looks); each row that meets fmt, with fmt's text TOLD by the authors' own Lean function (tested against real Go, not proved from fmt's source: count such statements apart). THE CARD IS WHAT COUNTS. Prove the row's statement (the work); the ties are given (YtnogalajfccioaaDoorTie.lean); close each card by the builder's one call (the guide's Derived/Test/ToyasCard.lean, 'card_holds'). Laid BY PROGRAM, IN A SANDBOX (cutbox-door.mjs). By AI agents, Wed Nov 11 2026. No macro, syntax, notation, axiom, sorry.
-/
import Derived.Test.YtnogalajfccioaaDoorRows
import GoSem.ClaimSeven
namespace Go.Proofs.YtnogalajfccioaaDoor
namespace Rows

/-- THE TIED CARD OF 'recantlaw13.OpaqueSerial'. -/
def opaqueSerialCard : Claim7 := { stood := { row := opaqueSerialRow, standIns := [], harness := (true, "1034ffc1888e7bbb83ab6d288c06a977d25e440fdc5d0ed4ff61de4132149f3d"), looks := true }, kinds := [], alts := [], laidByText := true, laidKinds := [.widerDeep], laidTests := true, laidLooks := .later }
def OpaqueSerialCardSaid : Prop := Claim7.holds Tryd.pinned (.plain (OpenSpec.ofChange opaqueSerialSpec)) opaqueSerialCard

/-- THE TIED CARD OF 'recantlaw14.StrictWider'. -/
def strictWiderCard : Claim7 := { stood := { row := strictWiderRow, standIns := [], harness := (true, "1034ffc1888e7bbb83ab6d288c06a977d25e440fdc5d0ed4ff61de4132149f3d"), looks := true }, kinds := [], alts := [], laidByText := true, laidKinds := [.widerDeep], laidTests := true, laidLooks := .later }
def StrictWiderCardSaid : Prop := Claim7.holds Tryd.pinned (.plain (OpenSpec.ofChange strictWiderSpec)) strictWiderCard

/-- THE TIED CARD OF 'recantlaw12.SerialRight'. -/
def serialRightCard : Claim7 := { stood := { row := serialRightRow, standIns := [], harness := (true, "1034ffc1888e7bbb83ab6d288c06a977d25e440fdc5d0ed4ff61de4132149f3d"), looks := true }, kinds := [], alts := [], laidByText := true, laidKinds := [.widerDeep], laidTests := true, laidLooks := .later }
def SerialRightCardSaid : Prop := Claim7.holds Tryd.pinned (.plain (OpenSpec.ofChange serialRightSpec)) serialRightCard

/-- THE TIED CARD OF 'recantlaw20.EarlyWider'. -/
def earlyWiderCard : Claim7 := { stood := { row := earlyWiderRow, standIns := [], harness := (true, "1034ffc1888e7bbb83ab6d288c06a977d25e440fdc5d0ed4ff61de4132149f3d"), looks := true }, kinds := [], alts := [], laidByText := true, laidKinds := [.widerDeep], laidTests := true, laidLooks := .later }
def EarlyWiderCardSaid : Prop := Claim7.holds Tryd.pinned (.plain (OpenSpec.ofChange earlyWiderSpec)) earlyWiderCard

/-- THE TIED CARD OF 'recantlaw15.WorldBetween'. -/
def worldBetweenCard : Claim7 := { stood := { row := worldBetweenRow, standIns := [], harness := (true, "1034ffc1888e7bbb83ab6d288c06a977d25e440fdc5d0ed4ff61de4132149f3d"), looks := true }, kinds := [], alts := [], laidByText := true, laidKinds := [.widerDeep], laidTests := true, laidLooks := .later }
def WorldBetweenCardSaid : Prop := Claim7.holds Tryd.pinned (.plain (OpenSpec.ofChange worldBetweenSpec)) worldBetweenCard

/-- THE TIED CARD OF 'recantlaw19.QuickSame'. -/
def quickSameCard : Claim7 := { stood := { row := quickSameRow, standIns := [], harness := (true, "1034ffc1888e7bbb83ab6d288c06a977d25e440fdc5d0ed4ff61de4132149f3d"), looks := true }, kinds := [], alts := [], laidByText := true, laidKinds := [.widerDeep], laidTests := true, laidLooks := .later }
def QuickSameCardSaid : Prop := Claim7.holds Tryd.pinned (.plain (OpenSpec.ofChange quickSameSpec)) quickSameCard

/-- THE SECOND FORM's CARD OF 'recantlaw13.OpaqueSerial'. -/
def opaqueSerialUptoCard : Claim7 := { stood := { row := opaqueSerialUptoRow, standIns := [], harness := (true, "1034ffc1888e7bbb83ab6d288c06a977d25e440fdc5d0ed4ff61de4132149f3d"), looks := true }, kinds := [], alts := [], laidByText := true, laidKinds := [.widerDeep], laidTests := true, laidLooks := .later }
def OpaqueSerialUptoCardSaid : Prop := Claim7.holds Tryd.pinned (.plain (OpenSpec.upto opaqueSerialSpec)) opaqueSerialUptoCard

/-- THE SECOND FORM's CARD OF 'recantlaw14.StrictWider'. -/
def strictWiderUptoCard : Claim7 := { stood := { row := strictWiderUptoRow, standIns := [], harness := (true, "1034ffc1888e7bbb83ab6d288c06a977d25e440fdc5d0ed4ff61de4132149f3d"), looks := true }, kinds := [], alts := [], laidByText := true, laidKinds := [.widerDeep], laidTests := true, laidLooks := .later }
def StrictWiderUptoCardSaid : Prop := Claim7.holds Tryd.pinned (.plain (OpenSpec.upto strictWiderSpec)) strictWiderUptoCard

/-- THE SECOND FORM's CARD OF 'recantlaw12.SerialRight'. -/
def serialRightUptoCard : Claim7 := { stood := { row := serialRightUptoRow, standIns := [], harness := (true, "1034ffc1888e7bbb83ab6d288c06a977d25e440fdc5d0ed4ff61de4132149f3d"), looks := true }, kinds := [], alts := [], laidByText := true, laidKinds := [.widerDeep], laidTests := true, laidLooks := .later }
def SerialRightUptoCardSaid : Prop := Claim7.holds Tryd.pinned (.plain (OpenSpec.upto serialRightSpec)) serialRightUptoCard

/-- THE SECOND FORM's CARD OF 'recantlaw20.EarlyWider'. -/
def earlyWiderUptoCard : Claim7 := { stood := { row := earlyWiderUptoRow, standIns := [], harness := (true, "1034ffc1888e7bbb83ab6d288c06a977d25e440fdc5d0ed4ff61de4132149f3d"), looks := true }, kinds := [], alts := [], laidByText := true, laidKinds := [.widerDeep], laidTests := true, laidLooks := .later }
def EarlyWiderUptoCardSaid : Prop := Claim7.holds Tryd.pinned (.plain (OpenSpec.upto earlyWiderSpec)) earlyWiderUptoCard

/-- THE SECOND FORM's CARD OF 'recantlaw15.WorldBetween'. -/
def worldBetweenUptoCard : Claim7 := { stood := { row := worldBetweenUptoRow, standIns := [], harness := (true, "1034ffc1888e7bbb83ab6d288c06a977d25e440fdc5d0ed4ff61de4132149f3d"), looks := true }, kinds := [], alts := [], laidByText := true, laidKinds := [.widerDeep], laidTests := true, laidLooks := .later }
def WorldBetweenUptoCardSaid : Prop := Claim7.holds Tryd.pinned (.plain (OpenSpec.upto worldBetweenSpec)) worldBetweenUptoCard

/-- THE SECOND FORM's CARD OF 'recantlaw19.QuickSame'. -/
def quickSameUptoCard : Claim7 := { stood := { row := quickSameUptoRow, standIns := [], harness := (true, "1034ffc1888e7bbb83ab6d288c06a977d25e440fdc5d0ed4ff61de4132149f3d"), looks := true }, kinds := [], alts := [], laidByText := true, laidKinds := [.widerDeep], laidTests := true, laidLooks := .later }
def QuickSameUptoCardSaid : Prop := Claim7.holds Tryd.pinned (.plain (OpenSpec.upto quickSameSpec)) quickSameUptoCard
end Rows
end Go.Proofs.YtnogalajfccioaaDoor
