/-
  DERIVED. GIVEN WITH THE SEED: THE CARDS: each row of YtehpnbeihnhjeaaDoorRows.lean that lists a variable, with what it lists TIED to the program's text (the seventh form; the later family's looks); each row that meets fmt, with fmt's text TOLD by the authors' own Lean function (tested against real Go, not proved from fmt's source: count such statements apart). THE CARD IS WHAT COUNTS. Prove the row's statement (the work); the ties are given (YtehpnbeihnhjeaaDoorTie.lean); close each card by the builder's one call (the guide's Derived/Test/ToyasCard.lean, 'card_holds'). Laid BY PROGRAM, IN A SANDBOX (cutbox-door.mjs). By AI agents, Wed Nov 11 2026. No macro, syntax, notation, axiom, sorry.
-/
import Derived.Test.YtehpnbeihnhjeaaDoorRows
import GoSem.ClaimSeven
namespace Go.Proofs.YtehpnbeihnhjeaaDoor
namespace Rows

/-- THE TIED CARD OF 'heliastlaw06.NamesAsks'. -/
def namesAsksCard : Claim7 := { stood := { row := namesAsksRow, standIns := [], harness := (true, "f9907188933ece87b77b1618cb57b030d9a50f3daf99862c9f01d8c3d7d29cbc"), looks := false }, kinds := [], alts := [], laidByText := true, laidKinds := [.data, .pinned], laidTests := true, laidLooks := .later }
def NamesAsksCardSaid : Prop := Claim7.holds Tryd.pinned (.plain (OpenSpec.ofChange namesAsksSpec)) namesAsksCard

/-- THE TIED CARD OF 'heliastlaw06.NamesGlob'. -/
def namesGlobCard : Claim7 := { stood := { row := namesGlobRow, standIns := [], harness := (true, "f9907188933ece87b77b1618cb57b030d9a50f3daf99862c9f01d8c3d7d29cbc"), looks := false }, kinds := [], alts := [], laidByText := true, laidKinds := [.data, .pinned], laidTests := true, laidLooks := .later }
def NamesGlobCardSaid : Prop := Claim7.holds Tryd.pinned (.plain (OpenSpec.ofChange namesGlobSpec)) namesGlobCard

/-- THE TIED CARD OF 'heliastlaw06.NamesParts'. -/
def namesPartsCard : Claim7 := { stood := { row := namesPartsRow, standIns := [], harness := (true, "f9907188933ece87b77b1618cb57b030d9a50f3daf99862c9f01d8c3d7d29cbc"), looks := false }, kinds := [], alts := [], laidByText := true, laidKinds := [.data, .pinned], laidTests := true, laidLooks := .later }
def NamesPartsCardSaid : Prop := Claim7.holds Tryd.pinned (.plain (OpenSpec.ofChange namesPartsSpec)) namesPartsCard

/-- THE TIED CARD OF 'heliastlaw06.NamesLet'. -/
def namesLetCard : Claim7 := { stood := { row := namesLetRow, standIns := [], harness := (true, "f9907188933ece87b77b1618cb57b030d9a50f3daf99862c9f01d8c3d7d29cbc"), looks := false }, kinds := [], alts := [], laidByText := true, laidKinds := [.data, .pinned], laidTests := true, laidLooks := .later }
def NamesLetCardSaid : Prop := Claim7.holds Tryd.pinned (.plain (OpenSpec.ofChange namesLetSpec)) namesLetCard

/-- THE TIED CARD OF 'heliastlaw06.NamesMarks'. -/
def namesMarksCard : Claim7 := { stood := { row := namesMarksRow, standIns := [], harness := (true, "f9907188933ece87b77b1618cb57b030d9a50f3daf99862c9f01d8c3d7d29cbc"), looks := false }, kinds := [], alts := [], laidByText := true, laidKinds := [.data, .pinned], laidTests := true, laidLooks := .later }
def NamesMarksCardSaid : Prop := Claim7.holds Tryd.pinned (.plain (OpenSpec.ofChange namesMarksSpec)) namesMarksCard

/-- THE TIED CARD OF 'heliastlaw06.NamesParted'. -/
def namesPartedCard : Claim7 := { stood := { row := namesPartedRow, standIns := [], harness := (true, "f9907188933ece87b77b1618cb57b030d9a50f3daf99862c9f01d8c3d7d29cbc"), looks := false }, kinds := [], alts := [], laidByText := true, laidKinds := [.data, .pinned], laidTests := true, laidLooks := .later }
def NamesPartedCardSaid : Prop := Claim7.holds Tryd.pinned (.plain (OpenSpec.ofChange namesPartedSpec)) namesPartedCard

/-- THE TIED CARD OF 'heliastlaw06.NamesOne'. -/
def namesOneCard : Claim7 := { stood := { row := namesOneRow, standIns := [], harness := (true, "f9907188933ece87b77b1618cb57b030d9a50f3daf99862c9f01d8c3d7d29cbc"), looks := false }, kinds := [], alts := [], laidByText := true, laidKinds := [.data, .pinned], laidTests := true, laidLooks := .later }
def NamesOneCardSaid : Prop := Claim7.holds Tryd.pinned (.plain (OpenSpec.ofChange namesOneSpec)) namesOneCard

/-- THE SECOND FORM's CARD OF 'heliastlaw06.NamesAsks'. -/
def namesAsksUptoCard : Claim7 := { stood := { row := namesAsksUptoRow, standIns := [], harness := (true, "f9907188933ece87b77b1618cb57b030d9a50f3daf99862c9f01d8c3d7d29cbc"), looks := false }, kinds := [], alts := [], laidByText := true, laidKinds := [.data, .pinned], laidTests := true, laidLooks := .later }
def NamesAsksUptoCardSaid : Prop := Claim7.holds Tryd.pinned (.plain (OpenSpec.upto namesAsksSpec)) namesAsksUptoCard

/-- THE SECOND FORM's CARD OF 'heliastlaw06.NamesGlob'. -/
def namesGlobUptoCard : Claim7 := { stood := { row := namesGlobUptoRow, standIns := [], harness := (true, "f9907188933ece87b77b1618cb57b030d9a50f3daf99862c9f01d8c3d7d29cbc"), looks := false }, kinds := [], alts := [], laidByText := true, laidKinds := [.data, .pinned], laidTests := true, laidLooks := .later }
def NamesGlobUptoCardSaid : Prop := Claim7.holds Tryd.pinned (.plain (OpenSpec.upto namesGlobSpec)) namesGlobUptoCard

/-- THE SECOND FORM's CARD OF 'heliastlaw06.NamesParts'. -/
def namesPartsUptoCard : Claim7 := { stood := { row := namesPartsUptoRow, standIns := [], harness := (true, "f9907188933ece87b77b1618cb57b030d9a50f3daf99862c9f01d8c3d7d29cbc"), looks := false }, kinds := [], alts := [], laidByText := true, laidKinds := [.data, .pinned], laidTests := true, laidLooks := .later }
def NamesPartsUptoCardSaid : Prop := Claim7.holds Tryd.pinned (.plain (OpenSpec.upto namesPartsSpec)) namesPartsUptoCard

/-- THE SECOND FORM's CARD OF 'heliastlaw06.NamesLet'. -/
def namesLetUptoCard : Claim7 := { stood := { row := namesLetUptoRow, standIns := [], harness := (true, "f9907188933ece87b77b1618cb57b030d9a50f3daf99862c9f01d8c3d7d29cbc"), looks := false }, kinds := [], alts := [], laidByText := true, laidKinds := [.data, .pinned], laidTests := true, laidLooks := .later }
def NamesLetUptoCardSaid : Prop := Claim7.holds Tryd.pinned (.plain (OpenSpec.upto namesLetSpec)) namesLetUptoCard

/-- THE SECOND FORM's CARD OF 'heliastlaw06.NamesMarks'. -/
def namesMarksUptoCard : Claim7 := { stood := { row := namesMarksUptoRow, standIns := [], harness := (true, "f9907188933ece87b77b1618cb57b030d9a50f3daf99862c9f01d8c3d7d29cbc"), looks := false }, kinds := [], alts := [], laidByText := true, laidKinds := [.data, .pinned], laidTests := true, laidLooks := .later }
def NamesMarksUptoCardSaid : Prop := Claim7.holds Tryd.pinned (.plain (OpenSpec.upto namesMarksSpec)) namesMarksUptoCard

/-- THE SECOND FORM's CARD OF 'heliastlaw06.NamesParted'. -/
def namesPartedUptoCard : Claim7 := { stood := { row := namesPartedUptoRow, standIns := [], harness := (true, "f9907188933ece87b77b1618cb57b030d9a50f3daf99862c9f01d8c3d7d29cbc"), looks := false }, kinds := [], alts := [], laidByText := true, laidKinds := [.data, .pinned], laidTests := true, laidLooks := .later }
def NamesPartedUptoCardSaid : Prop := Claim7.holds Tryd.pinned (.plain (OpenSpec.upto namesPartedSpec)) namesPartedUptoCard

/-- THE SECOND FORM's CARD OF 'heliastlaw06.NamesOne'. -/
def namesOneUptoCard : Claim7 := { stood := { row := namesOneUptoRow, standIns := [], harness := (true, "f9907188933ece87b77b1618cb57b030d9a50f3daf99862c9f01d8c3d7d29cbc"), looks := false }, kinds := [], alts := [], laidByText := true, laidKinds := [.data, .pinned], laidTests := true, laidLooks := .later }
def NamesOneUptoCardSaid : Prop := Claim7.holds Tryd.pinned (.plain (OpenSpec.upto namesOneSpec)) namesOneUptoCard
end Rows
end Go.Proofs.YtehpnbeihnhjeaaDoor
