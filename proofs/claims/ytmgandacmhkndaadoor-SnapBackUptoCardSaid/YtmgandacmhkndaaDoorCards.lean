/-
  DERIVED. GIVEN WITH THE SEED: THE CARDS: each row of YtmgandacmhkndaaDoorRows.lean that lists a variable, with what it lists TIED to the program's text (the seventh form; the later family's looks); each row that meets fmt, with fmt's text TOLD by the authors' own Lean function (tested against real Go, not proved from fmt's source: count such statements apart). THE CARD IS WHAT COUNTS. Prove the row's statement (the work); the ties are given (YtmgandacmhkndaaDoorTie.lean); close each card by the builder's one call (the guide's Derived/Test/ToyasCard.lean, 'card_holds'). Laid BY PROGRAM, IN A SANDBOX (cutbox-door.mjs). By AI agents, Wed Nov 11 2026. No macro, syntax, notation, axiom, sorry.
-/
import Derived.Test.YtmgandacmhkndaaDoorRows
import GoSem.ClaimSeven
namespace Go.Proofs.YtmgandacmhkndaaDoor
namespace Rows

/-- THE TIED CARD OF 'scriptoriumlaw17.WireWrites'. -/
def wireWritesCard : Claim7 := { stood := { row := wireWritesRow, standIns := [], harness := (true, "b455a12ac5316447e71d92fcaa7f3345b498ca1bbb3821c2340898ba5c7295d5"), looks := true }, kinds := [], alts := [], laidByText := true, laidKinds := [.handle], laidTests := true, laidLooks := .later }
def WireWritesCardSaid : Prop := Claim7.holds Tryd.pinned (.plain (OpenSpec.ofChange wireWritesSpec)) wireWritesCard

/-- THE TIED CARD OF 'scriptoriumlaw17.WireBack'. -/
def wireBackCard : Claim7 := { stood := { row := wireBackRow, standIns := [], harness := (true, "b455a12ac5316447e71d92fcaa7f3345b498ca1bbb3821c2340898ba5c7295d5"), looks := true }, kinds := [], alts := [], laidByText := true, laidKinds := [.handle], laidTests := true, laidLooks := .later }
def WireBackCardSaid : Prop := Claim7.holds Tryd.pinned (.plain (OpenSpec.ofChange wireBackSpec)) wireBackCard

/-- THE TIED CARD OF 'scriptoriumlaw17.WireApart'. -/
def wireApartCard : Claim7 := { stood := { row := wireApartRow, standIns := [], harness := (true, "b455a12ac5316447e71d92fcaa7f3345b498ca1bbb3821c2340898ba5c7295d5"), looks := true }, kinds := [], alts := [], laidByText := true, laidKinds := [.handle], laidTests := true, laidLooks := .later }
def WireApartCardSaid : Prop := Claim7.holds Tryd.pinned (.plain (OpenSpec.ofChange wireApartSpec)) wireApartCard

/-- THE TIED CARD OF 'scriptoriumlaw17.WireBounds'. -/
def wireBoundsCard : Claim7 := { stood := { row := wireBoundsRow, standIns := [], harness := (true, "b455a12ac5316447e71d92fcaa7f3345b498ca1bbb3821c2340898ba5c7295d5"), looks := true }, kinds := [], alts := [], laidByText := true, laidKinds := [.handle], laidTests := true, laidLooks := .later }
def WireBoundsCardSaid : Prop := Claim7.holds Tryd.pinned (.plain (OpenSpec.ofChange wireBoundsSpec)) wireBoundsCard

/-- THE TIED CARD OF 'scriptoriumlaw13.SnapNumbers'. -/
def snapNumbersCard : Claim7 := { stood := { row := snapNumbersRow, standIns := [], harness := (true, "b455a12ac5316447e71d92fcaa7f3345b498ca1bbb3821c2340898ba5c7295d5"), looks := true }, kinds := [], alts := [], laidByText := true, laidKinds := [.handle], laidTests := true, laidLooks := .later }
def SnapNumbersCardSaid : Prop := Claim7.holds Tryd.pinned (.plain (OpenSpec.ofChange snapNumbersSpec)) snapNumbersCard

/-- THE TIED CARD OF 'scriptoriumlaw13.SnapBack'. -/
def snapBackCard : Claim7 := { stood := { row := snapBackRow, standIns := [], harness := (true, "b455a12ac5316447e71d92fcaa7f3345b498ca1bbb3821c2340898ba5c7295d5"), looks := true }, kinds := [], alts := [], laidByText := true, laidKinds := [.handle], laidTests := true, laidLooks := .later }
def SnapBackCardSaid : Prop := Claim7.holds Tryd.pinned (.plain (OpenSpec.ofChange snapBackSpec)) snapBackCard

/-- THE TIED CARD OF 'scriptoriumlaw13.SnapStores'. -/
def snapStoresCard : Claim7 := { stood := { row := snapStoresRow, standIns := [], harness := (true, "b455a12ac5316447e71d92fcaa7f3345b498ca1bbb3821c2340898ba5c7295d5"), looks := true }, kinds := [], alts := [], laidByText := true, laidKinds := [.handle], laidTests := true, laidLooks := .later }
def SnapStoresCardSaid : Prop := Claim7.holds Tryd.pinned (.plain (OpenSpec.ofChange snapStoresSpec)) snapStoresCard

/-- THE TIED CARD OF 'scriptoriumlaw13.SnapApart'. -/
def snapApartCard : Claim7 := { stood := { row := snapApartRow, standIns := [], harness := (true, "b455a12ac5316447e71d92fcaa7f3345b498ca1bbb3821c2340898ba5c7295d5"), looks := true }, kinds := [], alts := [], laidByText := true, laidKinds := [.handle], laidTests := true, laidLooks := .later }
def SnapApartCardSaid : Prop := Claim7.holds Tryd.pinned (.plain (OpenSpec.ofChange snapApartSpec)) snapApartCard

/-- THE SECOND FORM's CARD OF 'scriptoriumlaw17.WireWrites'. -/
def wireWritesUptoCard : Claim7 := { stood := { row := wireWritesUptoRow, standIns := [], harness := (true, "b455a12ac5316447e71d92fcaa7f3345b498ca1bbb3821c2340898ba5c7295d5"), looks := true }, kinds := [], alts := [], laidByText := true, laidKinds := [.handle], laidTests := true, laidLooks := .later }
def WireWritesUptoCardSaid : Prop := Claim7.holds Tryd.pinned (.plain (OpenSpec.upto wireWritesSpec)) wireWritesUptoCard

/-- THE SECOND FORM's CARD OF 'scriptoriumlaw17.WireBack'. -/
def wireBackUptoCard : Claim7 := { stood := { row := wireBackUptoRow, standIns := [], harness := (true, "b455a12ac5316447e71d92fcaa7f3345b498ca1bbb3821c2340898ba5c7295d5"), looks := true }, kinds := [], alts := [], laidByText := true, laidKinds := [.handle], laidTests := true, laidLooks := .later }
def WireBackUptoCardSaid : Prop := Claim7.holds Tryd.pinned (.plain (OpenSpec.upto wireBackSpec)) wireBackUptoCard

/-- THE SECOND FORM's CARD OF 'scriptoriumlaw17.WireApart'. -/
def wireApartUptoCard : Claim7 := { stood := { row := wireApartUptoRow, standIns := [], harness := (true, "b455a12ac5316447e71d92fcaa7f3345b498ca1bbb3821c2340898ba5c7295d5"), looks := true }, kinds := [], alts := [], laidByText := true, laidKinds := [.handle], laidTests := true, laidLooks := .later }
def WireApartUptoCardSaid : Prop := Claim7.holds Tryd.pinned (.plain (OpenSpec.upto wireApartSpec)) wireApartUptoCard

/-- THE SECOND FORM's CARD OF 'scriptoriumlaw17.WireBounds'. -/
def wireBoundsUptoCard : Claim7 := { stood := { row := wireBoundsUptoRow, standIns := [], harness := (true, "b455a12ac5316447e71d92fcaa7f3345b498ca1bbb3821c2340898ba5c7295d5"), looks := true }, kinds := [], alts := [], laidByText := true, laidKinds := [.handle], laidTests := true, laidLooks := .later }
def WireBoundsUptoCardSaid : Prop := Claim7.holds Tryd.pinned (.plain (OpenSpec.upto wireBoundsSpec)) wireBoundsUptoCard

/-- THE SECOND FORM's CARD OF 'scriptoriumlaw13.SnapNumbers'. -/
def snapNumbersUptoCard : Claim7 := { stood := { row := snapNumbersUptoRow, standIns := [], harness := (true, "b455a12ac5316447e71d92fcaa7f3345b498ca1bbb3821c2340898ba5c7295d5"), looks := true }, kinds := [], alts := [], laidByText := true, laidKinds := [.handle], laidTests := true, laidLooks := .later }
def SnapNumbersUptoCardSaid : Prop := Claim7.holds Tryd.pinned (.plain (OpenSpec.upto snapNumbersSpec)) snapNumbersUptoCard

/-- THE SECOND FORM's CARD OF 'scriptoriumlaw13.SnapBack'. -/
def snapBackUptoCard : Claim7 := { stood := { row := snapBackUptoRow, standIns := [], harness := (true, "b455a12ac5316447e71d92fcaa7f3345b498ca1bbb3821c2340898ba5c7295d5"), looks := true }, kinds := [], alts := [], laidByText := true, laidKinds := [.handle], laidTests := true, laidLooks := .later }
def SnapBackUptoCardSaid : Prop := Claim7.holds Tryd.pinned (.plain (OpenSpec.upto snapBackSpec)) snapBackUptoCard

/-- THE SECOND FORM's CARD OF 'scriptoriumlaw13.SnapStores'. -/
def snapStoresUptoCard : Claim7 := { stood := { row := snapStoresUptoRow, standIns := [], harness := (true, "b455a12ac5316447e71d92fcaa7f3345b498ca1bbb3821c2340898ba5c7295d5"), looks := true }, kinds := [], alts := [], laidByText := true, laidKinds := [.handle], laidTests := true, laidLooks := .later }
def SnapStoresUptoCardSaid : Prop := Claim7.holds Tryd.pinned (.plain (OpenSpec.upto snapStoresSpec)) snapStoresUptoCard

/-- THE SECOND FORM's CARD OF 'scriptoriumlaw13.SnapApart'. -/
def snapApartUptoCard : Claim7 := { stood := { row := snapApartUptoRow, standIns := [], harness := (true, "b455a12ac5316447e71d92fcaa7f3345b498ca1bbb3821c2340898ba5c7295d5"), looks := true }, kinds := [], alts := [], laidByText := true, laidKinds := [.handle], laidTests := true, laidLooks := .later }
def SnapApartUptoCardSaid : Prop := Claim7.holds Tryd.pinned (.plain (OpenSpec.upto snapApartSpec)) snapApartUptoCard
end Rows
end Go.Proofs.YtmgandacmhkndaaDoor
