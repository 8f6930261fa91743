/-
  DERIVED. GIVEN WITH THE SEED: THE CARDS: each row of YtknfoolcbfmpaaaDoorRows.lean that lists a variable, with what it lists TIED to the program's text (the seventh form; the later family's looks); each row that meets fmt, with fmt's text TOLD by the authors' own Lean function (tested against real Go, not proved from fmt's source: count such statements apart). THE CARD IS WHAT COUNTS. Prove the row's statement (the work); the ties are given (YtknfoolcbfmpaaaDoorTie.lean); close each card by the builder's one call (the guide's Derived/Test/ToyasCard.lean, 'card_holds'). Laid BY PROGRAM, IN A SANDBOX (cutbox-door.mjs). By AI agents, Wed Nov 11 2026. No macro, syntax, notation, axiom, sorry.
-/
import Derived.Test.YtknfoolcbfmpaaaDoorRows
import GoSem.ClaimSeven
namespace Go.Proofs.YtknfoolcbfmpaaaDoor
namespace Rows

/-- THE TIED CARD OF 'pendentivelaw05.HeadShows'. -/
def headShowsCard : Claim7 := { stood := { row := headShowsRow, standIns := [], harness := (true, "fca77f3d375cf8daf5820d355f105de729de29cc296c20f8897a3ab10df921ad"), looks := false }, kinds := [], alts := [], laidByText := true, laidKinds := [.data, .sentinel, .pinned], laidTests := true, laidLooks := .later }
def HeadShowsCardSaid : Prop := Claim7.holds Tryd.pinned (.plain (OpenSpec.ofChange headShowsSpec)) headShowsCard

/-- THE TIED CARD OF 'pendentivelaw05.HeadReads'. -/
def headReadsCard : Claim7 := { stood := { row := headReadsRow, standIns := [], harness := (true, "fca77f3d375cf8daf5820d355f105de729de29cc296c20f8897a3ab10df921ad"), looks := false }, kinds := [], alts := [], laidByText := true, laidKinds := [.data, .sentinel, .pinned], laidTests := true, laidLooks := .later }
def HeadReadsCardSaid : Prop := Claim7.holds Tryd.pinned (.plain (OpenSpec.ofChange headReadsSpec)) headReadsCard

/-- THE TIED CARD OF 'pendentivelaw05.HeadCuts'. -/
def headCutsCard : Claim7 := { stood := { row := headCutsRow, standIns := [], harness := (true, "fca77f3d375cf8daf5820d355f105de729de29cc296c20f8897a3ab10df921ad"), looks := false }, kinds := [], alts := [], laidByText := true, laidKinds := [.data, .sentinel, .pinned], laidTests := true, laidLooks := .later }
def HeadCutsCardSaid : Prop := Claim7.holds Tryd.pinned (.plain (OpenSpec.ofChange headCutsSpec)) headCutsCard

/-- THE TIED CARD OF 'pendentivelaw05.HeadGets'. -/
def headGetsCard : Claim7 := { stood := { row := headGetsRow, standIns := [], harness := (true, "fca77f3d375cf8daf5820d355f105de729de29cc296c20f8897a3ab10df921ad"), looks := false }, kinds := [], alts := [], laidByText := true, laidKinds := [.data, .sentinel, .pinned], laidTests := true, laidLooks := .later }
def HeadGetsCardSaid : Prop := Claim7.holds Tryd.pinned (.plain (OpenSpec.ofChange headGetsSpec)) headGetsCard

/-- THE TIED CARD OF 'pendentivelaw05.HeadSame'. -/
def headSameCard : Claim7 := { stood := { row := headSameRow, standIns := [], harness := (true, "fca77f3d375cf8daf5820d355f105de729de29cc296c20f8897a3ab10df921ad"), looks := false }, kinds := [], alts := [], laidByText := true, laidKinds := [.data, .sentinel, .pinned], laidTests := true, laidLooks := .later }
def HeadSameCardSaid : Prop := Claim7.holds Tryd.pinned (.plain (OpenSpec.ofChange headSameSpec)) headSameCard

/-- THE TIED CARD OF 'pendentivelaw05.HeadAgain'. -/
def headAgainCard : Claim7 := { stood := { row := headAgainRow, standIns := [], harness := (true, "fca77f3d375cf8daf5820d355f105de729de29cc296c20f8897a3ab10df921ad"), looks := false }, kinds := [], alts := [], laidByText := true, laidKinds := [.data, .sentinel, .pinned], laidTests := true, laidLooks := .later }
def HeadAgainCardSaid : Prop := Claim7.holds Tryd.pinned (.plain (OpenSpec.ofChange headAgainSpec)) headAgainCard

/-- THE TIED CARD OF 'pendentivelaw05.HeadFields'. -/
def headFieldsCard : Claim7 := { stood := { row := headFieldsRow, standIns := [], harness := (true, "fca77f3d375cf8daf5820d355f105de729de29cc296c20f8897a3ab10df921ad"), looks := false }, kinds := [], alts := [], laidByText := true, laidKinds := [.data, .sentinel, .pinned], laidTests := true, laidLooks := .later }
def HeadFieldsCardSaid : Prop := Claim7.holds Tryd.pinned (.plain (OpenSpec.ofChange headFieldsSpec)) headFieldsCard

/-- THE TIED CARD OF 'pendentivelaw05.HeadTokens'. -/
def headTokensCard : Claim7 := { stood := { row := headTokensRow, standIns := [], harness := (true, "fca77f3d375cf8daf5820d355f105de729de29cc296c20f8897a3ab10df921ad"), looks := false }, kinds := [], alts := [], laidByText := true, laidKinds := [.data, .sentinel, .pinned], laidTests := true, laidLooks := .later }
def HeadTokensCardSaid : Prop := Claim7.holds Tryd.pinned (.plain (OpenSpec.ofChange headTokensSpec)) headTokensCard

/-- THE SECOND FORM's CARD OF 'pendentivelaw05.HeadShows'. -/
def headShowsUptoCard : Claim7 := { stood := { row := headShowsUptoRow, standIns := [], harness := (true, "fca77f3d375cf8daf5820d355f105de729de29cc296c20f8897a3ab10df921ad"), looks := false }, kinds := [], alts := [], laidByText := true, laidKinds := [.data, .sentinel, .pinned], laidTests := true, laidLooks := .later }
def HeadShowsUptoCardSaid : Prop := Claim7.holds Tryd.pinned (.plain (OpenSpec.upto headShowsSpec)) headShowsUptoCard

/-- THE SECOND FORM's CARD OF 'pendentivelaw05.HeadReads'. -/
def headReadsUptoCard : Claim7 := { stood := { row := headReadsUptoRow, standIns := [], harness := (true, "fca77f3d375cf8daf5820d355f105de729de29cc296c20f8897a3ab10df921ad"), looks := false }, kinds := [], alts := [], laidByText := true, laidKinds := [.data, .sentinel, .pinned], laidTests := true, laidLooks := .later }
def HeadReadsUptoCardSaid : Prop := Claim7.holds Tryd.pinned (.plain (OpenSpec.upto headReadsSpec)) headReadsUptoCard

/-- THE SECOND FORM's CARD OF 'pendentivelaw05.HeadCuts'. -/
def headCutsUptoCard : Claim7 := { stood := { row := headCutsUptoRow, standIns := [], harness := (true, "fca77f3d375cf8daf5820d355f105de729de29cc296c20f8897a3ab10df921ad"), looks := false }, kinds := [], alts := [], laidByText := true, laidKinds := [.data, .sentinel, .pinned], laidTests := true, laidLooks := .later }
def HeadCutsUptoCardSaid : Prop := Claim7.holds Tryd.pinned (.plain (OpenSpec.upto headCutsSpec)) headCutsUptoCard

/-- THE SECOND FORM's CARD OF 'pendentivelaw05.HeadGets'. -/
def headGetsUptoCard : Claim7 := { stood := { row := headGetsUptoRow, standIns := [], harness := (true, "fca77f3d375cf8daf5820d355f105de729de29cc296c20f8897a3ab10df921ad"), looks := false }, kinds := [], alts := [], laidByText := true, laidKinds := [.data, .sentinel, .pinned], laidTests := true, laidLooks := .later }
def HeadGetsUptoCardSaid : Prop := Claim7.holds Tryd.pinned (.plain (OpenSpec.upto headGetsSpec)) headGetsUptoCard

/-- THE SECOND FORM's CARD OF 'pendentivelaw05.HeadSame'. -/
def headSameUptoCard : Claim7 := { stood := { row := headSameUptoRow, standIns := [], harness := (true, "fca77f3d375cf8daf5820d355f105de729de29cc296c20f8897a3ab10df921ad"), looks := false }, kinds := [], alts := [], laidByText := true, laidKinds := [.data, .sentinel, .pinned], laidTests := true, laidLooks := .later }
def HeadSameUptoCardSaid : Prop := Claim7.holds Tryd.pinned (.plain (OpenSpec.upto headSameSpec)) headSameUptoCard

/-- THE SECOND FORM's CARD OF 'pendentivelaw05.HeadAgain'. -/
def headAgainUptoCard : Claim7 := { stood := { row := headAgainUptoRow, standIns := [], harness := (true, "fca77f3d375cf8daf5820d355f105de729de29cc296c20f8897a3ab10df921ad"), looks := false }, kinds := [], alts := [], laidByText := true, laidKinds := [.data, .sentinel, .pinned], laidTests := true, laidLooks := .later }
def HeadAgainUptoCardSaid : Prop := Claim7.holds Tryd.pinned (.plain (OpenSpec.upto headAgainSpec)) headAgainUptoCard

/-- THE SECOND FORM's CARD OF 'pendentivelaw05.HeadFields'. -/
def headFieldsUptoCard : Claim7 := { stood := { row := headFieldsUptoRow, standIns := [], harness := (true, "fca77f3d375cf8daf5820d355f105de729de29cc296c20f8897a3ab10df921ad"), looks := false }, kinds := [], alts := [], laidByText := true, laidKinds := [.data, .sentinel, .pinned], laidTests := true, laidLooks := .later }
def HeadFieldsUptoCardSaid : Prop := Claim7.holds Tryd.pinned (.plain (OpenSpec.upto headFieldsSpec)) headFieldsUptoCard

/-- THE SECOND FORM's CARD OF 'pendentivelaw05.HeadTokens'. -/
def headTokensUptoCard : Claim7 := { stood := { row := headTokensUptoRow, standIns := [], harness := (true, "fca77f3d375cf8daf5820d355f105de729de29cc296c20f8897a3ab10df921ad"), looks := false }, kinds := [], alts := [], laidByText := true, laidKinds := [.data, .sentinel, .pinned], laidTests := true, laidLooks := .later }
def HeadTokensUptoCardSaid : Prop := Claim7.holds Tryd.pinned (.plain (OpenSpec.upto headTokensSpec)) headTokensUptoCard
end Rows
end Go.Proofs.YtknfoolcbfmpaaaDoor
