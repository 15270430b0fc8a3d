/-
  DERIVED. GIVEN WITH THE SEED: THE CARDS: each row of YtibhijjmmagdcaaDoorRows.lean that lists a variable, with what it lists TIED to the program's text (the seventh form; the later family's looks); each row that meets fmt, with fmt's text TOLD by the authors' own Lean function (tested against real Go, not proved from fmt's source: count such statements apart). THE CARD IS WHAT COUNTS. Prove the row's statement (the work); the ties are given (YtibhijjmmagdcaaDoorTie.lean); close each card by the builder's one call (the guide's Derived/Test/ToyasCard.lean, 'card_holds'). Laid BY PROGRAM, IN A SANDBOX (cutbox-door.mjs). By AI agents, Wed Nov 11 2026. No macro, syntax, notation, axiom, sorry.
-/
import Derived.Test.YtibhijjmmagdcaaDoorRows
import GoSem.ClaimSeven
namespace Go.Proofs.YtibhijjmmagdcaaDoor
namespace Rows

/-- THE TIED CARD OF 'smithylaw04.HexTexts'. -/
def hexTextsCard : Claim7 := { stood := { row := hexTextsRow, standIns := [], harness := (true, "c45968c40c9b4c4834f7bfca80d659113ea94f1e758b156b2dc544fee8aa2d3e"), looks := false }, kinds := [], alts := [], laidByText := true, laidKinds := [.data, .pinned], laidTests := true, laidLooks := .later }
def HexTextsCardSaid : Prop := Claim7.holds Tryd.pinned (.plain (OpenSpec.ofChange hexTextsSpec)) hexTextsCard

/-- THE TIED CARD OF 'smithylaw04.HexReads'. -/
def hexReadsCard : Claim7 := { stood := { row := hexReadsRow, standIns := [], harness := (true, "c45968c40c9b4c4834f7bfca80d659113ea94f1e758b156b2dc544fee8aa2d3e"), looks := false }, kinds := [], alts := [], laidByText := true, laidKinds := [.data, .pinned], laidTests := true, laidLooks := .later }
def HexReadsCardSaid : Prop := Claim7.holds Tryd.pinned (.plain (OpenSpec.ofChange hexReadsSpec)) hexReadsCard

/-- THE TIED CARD OF 'smithylaw04.HexAddresses'. -/
def hexAddressesCard : Claim7 := { stood := { row := hexAddressesRow, standIns := [], harness := (true, "c45968c40c9b4c4834f7bfca80d659113ea94f1e758b156b2dc544fee8aa2d3e"), looks := false }, kinds := [], alts := [], laidByText := true, laidKinds := [.data, .pinned], laidTests := true, laidLooks := .later }
def HexAddressesCardSaid : Prop := Claim7.holds Tryd.pinned (.plain (OpenSpec.ofChange hexAddressesSpec)) hexAddressesCard

/-- THE TIED CARD OF 'smithylaw27.AsmNotes'. -/
def asmNotesCard : Claim7 := { stood := { row := asmNotesRow, standIns := [], harness := (true, "c45968c40c9b4c4834f7bfca80d659113ea94f1e758b156b2dc544fee8aa2d3e"), looks := false }, kinds := [], alts := [], laidByText := true, laidKinds := [.data, .data, .data, .data, .pinned], laidTests := true, laidLooks := .later }
def AsmNotesCardSaid : Prop := Claim7.holds Tryd.pinned (.plain (OpenSpec.ofChange asmNotesSpec)) asmNotesCard

/-- THE TIED CARD OF 'smithylaw27.AsmJoins'. -/
def asmJoinsCard : Claim7 := { stood := { row := asmJoinsRow, standIns := [], harness := (true, "c45968c40c9b4c4834f7bfca80d659113ea94f1e758b156b2dc544fee8aa2d3e"), looks := false }, kinds := [], alts := [], laidByText := true, laidKinds := [.data, .data, .data, .data, .pinned], laidTests := true, laidLooks := .later }
def AsmJoinsCardSaid : Prop := Claim7.holds Tryd.pinned (.plain (OpenSpec.ofChange asmJoinsSpec)) asmJoinsCard

/-- THE TIED CARD OF 'smithylaw11.OpsInfo'. -/
def opsInfoCard : Claim7 := { stood := { row := opsInfoRow, standIns := [], harness := (true, "c45968c40c9b4c4834f7bfca80d659113ea94f1e758b156b2dc544fee8aa2d3e"), looks := false }, kinds := [], alts := [], laidByText := true, laidKinds := [.data, .data, .data], laidTests := true, laidLooks := .later }
def OpsInfoCardSaid : Prop := Claim7.holds Tryd.pinned (.plain (OpenSpec.ofChange opsInfoSpec)) opsInfoCard

/-- THE TIED CARD OF 'smithylaw11.OpsWhole'. -/
def opsWholeCard : Claim7 := { stood := { row := opsWholeRow, standIns := [], harness := (true, "c45968c40c9b4c4834f7bfca80d659113ea94f1e758b156b2dc544fee8aa2d3e"), looks := false }, kinds := [], alts := [], laidByText := true, laidKinds := [.data, .data, .data], laidTests := true, laidLooks := .later }
def OpsWholeCardSaid : Prop := Claim7.holds Tryd.pinned (.plain (OpenSpec.ofChange opsWholeSpec)) opsWholeCard

/-- THE TIED CARD OF 'smithylaw11.OpsDests'. -/
def opsDestsCard : Claim7 := { stood := { row := opsDestsRow, standIns := [], harness := (true, "c45968c40c9b4c4834f7bfca80d659113ea94f1e758b156b2dc544fee8aa2d3e"), looks := false }, kinds := [], alts := [], laidByText := true, laidKinds := [.data, .data, .data], laidTests := true, laidLooks := .later }
def OpsDestsCardSaid : Prop := Claim7.holds Tryd.pinned (.plain (OpenSpec.ofChange opsDestsSpec)) opsDestsCard

/-- THE SECOND FORM's CARD OF 'smithylaw04.HexTexts'. -/
def hexTextsUptoCard : Claim7 := { stood := { row := hexTextsUptoRow, standIns := [], harness := (true, "c45968c40c9b4c4834f7bfca80d659113ea94f1e758b156b2dc544fee8aa2d3e"), looks := false }, kinds := [], alts := [], laidByText := true, laidKinds := [.data, .pinned], laidTests := true, laidLooks := .later }
def HexTextsUptoCardSaid : Prop := Claim7.holds Tryd.pinned (.plain (OpenSpec.upto hexTextsSpec)) hexTextsUptoCard

/-- THE SECOND FORM's CARD OF 'smithylaw04.HexReads'. -/
def hexReadsUptoCard : Claim7 := { stood := { row := hexReadsUptoRow, standIns := [], harness := (true, "c45968c40c9b4c4834f7bfca80d659113ea94f1e758b156b2dc544fee8aa2d3e"), looks := false }, kinds := [], alts := [], laidByText := true, laidKinds := [.data, .pinned], laidTests := true, laidLooks := .later }
def HexReadsUptoCardSaid : Prop := Claim7.holds Tryd.pinned (.plain (OpenSpec.upto hexReadsSpec)) hexReadsUptoCard

/-- THE SECOND FORM's CARD OF 'smithylaw04.HexAddresses'. -/
def hexAddressesUptoCard : Claim7 := { stood := { row := hexAddressesUptoRow, standIns := [], harness := (true, "c45968c40c9b4c4834f7bfca80d659113ea94f1e758b156b2dc544fee8aa2d3e"), looks := false }, kinds := [], alts := [], laidByText := true, laidKinds := [.data, .pinned], laidTests := true, laidLooks := .later }
def HexAddressesUptoCardSaid : Prop := Claim7.holds Tryd.pinned (.plain (OpenSpec.upto hexAddressesSpec)) hexAddressesUptoCard

/-- THE SECOND FORM's CARD OF 'smithylaw27.AsmNotes'. -/
def asmNotesUptoCard : Claim7 := { stood := { row := asmNotesUptoRow, standIns := [], harness := (true, "c45968c40c9b4c4834f7bfca80d659113ea94f1e758b156b2dc544fee8aa2d3e"), looks := false }, kinds := [], alts := [], laidByText := true, laidKinds := [.data, .data, .data, .data, .pinned], laidTests := true, laidLooks := .later }
def AsmNotesUptoCardSaid : Prop := Claim7.holds Tryd.pinned (.plain (OpenSpec.upto asmNotesSpec)) asmNotesUptoCard

/-- THE SECOND FORM's CARD OF 'smithylaw27.AsmJoins'. -/
def asmJoinsUptoCard : Claim7 := { stood := { row := asmJoinsUptoRow, standIns := [], harness := (true, "c45968c40c9b4c4834f7bfca80d659113ea94f1e758b156b2dc544fee8aa2d3e"), looks := false }, kinds := [], alts := [], laidByText := true, laidKinds := [.data, .data, .data, .data, .pinned], laidTests := true, laidLooks := .later }
def AsmJoinsUptoCardSaid : Prop := Claim7.holds Tryd.pinned (.plain (OpenSpec.upto asmJoinsSpec)) asmJoinsUptoCard

/-- THE SECOND FORM's CARD OF 'smithylaw11.OpsInfo'. -/
def opsInfoUptoCard : Claim7 := { stood := { row := opsInfoUptoRow, standIns := [], harness := (true, "c45968c40c9b4c4834f7bfca80d659113ea94f1e758b156b2dc544fee8aa2d3e"), looks := false }, kinds := [], alts := [], laidByText := true, laidKinds := [.data, .data, .data], laidTests := true, laidLooks := .later }
def OpsInfoUptoCardSaid : Prop := Claim7.holds Tryd.pinned (.plain (OpenSpec.upto opsInfoSpec)) opsInfoUptoCard

/-- THE SECOND FORM's CARD OF 'smithylaw11.OpsWhole'. -/
def opsWholeUptoCard : Claim7 := { stood := { row := opsWholeUptoRow, standIns := [], harness := (true, "c45968c40c9b4c4834f7bfca80d659113ea94f1e758b156b2dc544fee8aa2d3e"), looks := false }, kinds := [], alts := [], laidByText := true, laidKinds := [.data, .data, .data], laidTests := true, laidLooks := .later }
def OpsWholeUptoCardSaid : Prop := Claim7.holds Tryd.pinned (.plain (OpenSpec.upto opsWholeSpec)) opsWholeUptoCard

/-- THE SECOND FORM's CARD OF 'smithylaw11.OpsDests'. -/
def opsDestsUptoCard : Claim7 := { stood := { row := opsDestsUptoRow, standIns := [], harness := (true, "c45968c40c9b4c4834f7bfca80d659113ea94f1e758b156b2dc544fee8aa2d3e"), looks := false }, kinds := [], alts := [], laidByText := true, laidKinds := [.data, .data, .data], laidTests := true, laidLooks := .later }
def OpsDestsUptoCardSaid : Prop := Claim7.holds Tryd.pinned (.plain (OpenSpec.upto opsDestsSpec)) opsDestsUptoCard
end Rows
end Go.Proofs.YtibhijjmmagdcaaDoor
