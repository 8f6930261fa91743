/-
  DERIVED. GIVEN WITH THE SEED: THE CARDS: each row of YtjlkdfgboklmhaaDoorRows.lean that lists a variable, with what it lists TIED to the program's text (the seventh form; the later family's looks); each row that meets fmt, with fmt's text TOLD by the authors' own Lean function (tested against real Go, not proved from fmt's source: count such statements apart). THE CARD IS WHAT COUNTS. Prove the row's statement (the work); the ties are given (YtjlkdfgboklmhaaDoorTie.lean); close each card by the builder's one call (the guide's Derived/Test/ToyasCard.lean, 'card_holds'). Laid BY PROGRAM, IN A SANDBOX (cutbox-door.mjs). By AI agents, Wed Nov 11 2026. No macro, syntax, notation, axiom, sorry.
-/
import Derived.Test.YtjlkdfgboklmhaaDoorRows
import GoSem.ClaimSeven
namespace Go.Proofs.YtjlkdfgboklmhaaDoor
namespace Rows

/-- THE TIED CARD OF 'pendentivelaw02.BasePuts'. -/
def basePutsCard : Claim7 := { stood := { row := basePutsRow, standIns := [], harness := (true, "c84a6a8b8dc34dcfc27959ef4deb182f283fb993c57c61813e3db0f1f349cdc6"), looks := false }, kinds := [], alts := [], laidByText := true, laidKinds := [.data, .pinned], laidTests := true, laidLooks := .later }
def BasePutsCardSaid : Prop := Claim7.holds Tryd.pinned (.plain (OpenSpec.ofChange basePutsSpec)) basePutsCard

/-- THE TIED CARD OF 'pendentivelaw02.BaseGets'. -/
def baseGetsCard : Claim7 := { stood := { row := baseGetsRow, standIns := [], harness := (true, "c84a6a8b8dc34dcfc27959ef4deb182f283fb993c57c61813e3db0f1f349cdc6"), looks := false }, kinds := [], alts := [], laidByText := true, laidKinds := [.data, .pinned], laidTests := true, laidLooks := .later }
def BaseGetsCardSaid : Prop := Claim7.holds Tryd.pinned (.plain (OpenSpec.ofChange baseGetsSpec)) baseGetsCard

/-- THE TIED CARD OF 'pendentivelaw02.BaseApart'. -/
def baseApartCard : Claim7 := { stood := { row := baseApartRow, standIns := [], harness := (true, "c84a6a8b8dc34dcfc27959ef4deb182f283fb993c57c61813e3db0f1f349cdc6"), looks := false }, kinds := [], alts := [], laidByText := true, laidKinds := [.data, .pinned], laidTests := true, laidLooks := .later }
def BaseApartCardSaid : Prop := Claim7.holds Tryd.pinned (.plain (OpenSpec.ofChange baseApartSpec)) baseApartCard

/-- THE TIED CARD OF 'pendentivelaw02.BaseSizes'. -/
def baseSizesCard : Claim7 := { stood := { row := baseSizesRow, standIns := [], harness := (true, "c84a6a8b8dc34dcfc27959ef4deb182f283fb993c57c61813e3db0f1f349cdc6"), looks := false }, kinds := [], alts := [], laidByText := true, laidKinds := [.data, .pinned], laidTests := true, laidLooks := .later }
def BaseSizesCardSaid : Prop := Claim7.holds Tryd.pinned (.plain (OpenSpec.ofChange baseSizesSpec)) baseSizesCard

/-- THE TIED CARD OF 'pendentivelaw02.BaseFours'. -/
def baseFoursCard : Claim7 := { stood := { row := baseFoursRow, standIns := [], harness := (true, "c84a6a8b8dc34dcfc27959ef4deb182f283fb993c57c61813e3db0f1f349cdc6"), looks := false }, kinds := [], alts := [], laidByText := true, laidKinds := [.data, .pinned], laidTests := true, laidLooks := .later }
def BaseFoursCardSaid : Prop := Claim7.holds Tryd.pinned (.plain (OpenSpec.ofChange baseFoursSpec)) baseFoursCard

/-- THE TIED CARD OF 'pendentivelaw02.BaseTurned'. -/
def baseTurnedCard : Claim7 := { stood := { row := baseTurnedRow, standIns := [], harness := (true, "c84a6a8b8dc34dcfc27959ef4deb182f283fb993c57c61813e3db0f1f349cdc6"), looks := false }, kinds := [], alts := [], laidByText := true, laidKinds := [.data, .pinned], laidTests := true, laidLooks := .later }
def BaseTurnedCardSaid : Prop := Claim7.holds Tryd.pinned (.plain (OpenSpec.ofChange baseTurnedSpec)) baseTurnedCard

/-- THE TIED CARD OF 'pendentivelaw02.BaseHas'. -/
def baseHasCard : Claim7 := { stood := { row := baseHasRow, standIns := [], harness := (true, "c84a6a8b8dc34dcfc27959ef4deb182f283fb993c57c61813e3db0f1f349cdc6"), looks := false }, kinds := [], alts := [], laidByText := true, laidKinds := [.data, .pinned], laidTests := true, laidLooks := .later }
def BaseHasCardSaid : Prop := Claim7.holds Tryd.pinned (.plain (OpenSpec.ofChange baseHasSpec)) baseHasCard

/-- THE TIED CARD OF 'pendentivelaw02.BaseOnes'. -/
def baseOnesCard : Claim7 := { stood := { row := baseOnesRow, standIns := [], harness := (true, "c84a6a8b8dc34dcfc27959ef4deb182f283fb993c57c61813e3db0f1f349cdc6"), looks := false }, kinds := [], alts := [], laidByText := true, laidKinds := [.data, .pinned], laidTests := true, laidLooks := .later }
def BaseOnesCardSaid : Prop := Claim7.holds Tryd.pinned (.plain (OpenSpec.ofChange baseOnesSpec)) baseOnesCard

/-- THE SECOND FORM's CARD OF 'pendentivelaw02.BasePuts'. -/
def basePutsUptoCard : Claim7 := { stood := { row := basePutsUptoRow, standIns := [], harness := (true, "c84a6a8b8dc34dcfc27959ef4deb182f283fb993c57c61813e3db0f1f349cdc6"), looks := false }, kinds := [], alts := [], laidByText := true, laidKinds := [.data, .pinned], laidTests := true, laidLooks := .later }
def BasePutsUptoCardSaid : Prop := Claim7.holds Tryd.pinned (.plain (OpenSpec.upto basePutsSpec)) basePutsUptoCard

/-- THE SECOND FORM's CARD OF 'pendentivelaw02.BaseGets'. -/
def baseGetsUptoCard : Claim7 := { stood := { row := baseGetsUptoRow, standIns := [], harness := (true, "c84a6a8b8dc34dcfc27959ef4deb182f283fb993c57c61813e3db0f1f349cdc6"), looks := false }, kinds := [], alts := [], laidByText := true, laidKinds := [.data, .pinned], laidTests := true, laidLooks := .later }
def BaseGetsUptoCardSaid : Prop := Claim7.holds Tryd.pinned (.plain (OpenSpec.upto baseGetsSpec)) baseGetsUptoCard

/-- THE SECOND FORM's CARD OF 'pendentivelaw02.BaseApart'. -/
def baseApartUptoCard : Claim7 := { stood := { row := baseApartUptoRow, standIns := [], harness := (true, "c84a6a8b8dc34dcfc27959ef4deb182f283fb993c57c61813e3db0f1f349cdc6"), looks := false }, kinds := [], alts := [], laidByText := true, laidKinds := [.data, .pinned], laidTests := true, laidLooks := .later }
def BaseApartUptoCardSaid : Prop := Claim7.holds Tryd.pinned (.plain (OpenSpec.upto baseApartSpec)) baseApartUptoCard

/-- THE SECOND FORM's CARD OF 'pendentivelaw02.BaseSizes'. -/
def baseSizesUptoCard : Claim7 := { stood := { row := baseSizesUptoRow, standIns := [], harness := (true, "c84a6a8b8dc34dcfc27959ef4deb182f283fb993c57c61813e3db0f1f349cdc6"), looks := false }, kinds := [], alts := [], laidByText := true, laidKinds := [.data, .pinned], laidTests := true, laidLooks := .later }
def BaseSizesUptoCardSaid : Prop := Claim7.holds Tryd.pinned (.plain (OpenSpec.upto baseSizesSpec)) baseSizesUptoCard

/-- THE SECOND FORM's CARD OF 'pendentivelaw02.BaseFours'. -/
def baseFoursUptoCard : Claim7 := { stood := { row := baseFoursUptoRow, standIns := [], harness := (true, "c84a6a8b8dc34dcfc27959ef4deb182f283fb993c57c61813e3db0f1f349cdc6"), looks := false }, kinds := [], alts := [], laidByText := true, laidKinds := [.data, .pinned], laidTests := true, laidLooks := .later }
def BaseFoursUptoCardSaid : Prop := Claim7.holds Tryd.pinned (.plain (OpenSpec.upto baseFoursSpec)) baseFoursUptoCard

/-- THE SECOND FORM's CARD OF 'pendentivelaw02.BaseTurned'. -/
def baseTurnedUptoCard : Claim7 := { stood := { row := baseTurnedUptoRow, standIns := [], harness := (true, "c84a6a8b8dc34dcfc27959ef4deb182f283fb993c57c61813e3db0f1f349cdc6"), looks := false }, kinds := [], alts := [], laidByText := true, laidKinds := [.data, .pinned], laidTests := true, laidLooks := .later }
def BaseTurnedUptoCardSaid : Prop := Claim7.holds Tryd.pinned (.plain (OpenSpec.upto baseTurnedSpec)) baseTurnedUptoCard

/-- THE SECOND FORM's CARD OF 'pendentivelaw02.BaseHas'. -/
def baseHasUptoCard : Claim7 := { stood := { row := baseHasUptoRow, standIns := [], harness := (true, "c84a6a8b8dc34dcfc27959ef4deb182f283fb993c57c61813e3db0f1f349cdc6"), looks := false }, kinds := [], alts := [], laidByText := true, laidKinds := [.data, .pinned], laidTests := true, laidLooks := .later }
def BaseHasUptoCardSaid : Prop := Claim7.holds Tryd.pinned (.plain (OpenSpec.upto baseHasSpec)) baseHasUptoCard

/-- THE SECOND FORM's CARD OF 'pendentivelaw02.BaseOnes'. -/
def baseOnesUptoCard : Claim7 := { stood := { row := baseOnesUptoRow, standIns := [], harness := (true, "c84a6a8b8dc34dcfc27959ef4deb182f283fb993c57c61813e3db0f1f349cdc6"), looks := false }, kinds := [], alts := [], laidByText := true, laidKinds := [.data, .pinned], laidTests := true, laidLooks := .later }
def BaseOnesUptoCardSaid : Prop := Claim7.holds Tryd.pinned (.plain (OpenSpec.upto baseOnesSpec)) baseOnesUptoCard
end Rows
end Go.Proofs.YtjlkdfgboklmhaaDoor
