/-
  DERIVED. GIVEN WITH THE SEED: THE CARDS: each row of YtpibbokkdjjgeaaDoorRows.lean that lists a variable, with what it lists TIED to the program's text (the seventh form; the later family's looks); each row that meets fmt, with fmt's text TOLD by the authors' own Lean function (tested against real Go, not proved from fmt's source: count such statements apart). THE CARD IS WHAT COUNTS. Prove the row's statement (the work); the ties are given (YtpibbokkdjjgeaaDoorTie.lean); close each card by the builder's one call (the guide's Derived/Test/ToyasCard.lean, 'card_holds'). Laid BY PROGRAM, IN A SANDBOX (cutbox-door.mjs). By AI agents, Wed Nov 11 2026. No macro, syntax, notation, axiom, sorry.
-/
import Derived.Test.YtpibbokkdjjgeaaDoorRows
import GoSem.ClaimSeven
namespace Go.Proofs.YtpibbokkdjjgeaaDoor
namespace Rows

/-- THE TIED CARD OF 'heliastlaw01.GlyphAsks'. -/
def glyphAsksCard : Claim7 := { stood := { row := glyphAsksRow, standIns := [], harness := (true, "8997b7ca5b9aadf95f02a1b32bf30f586cd5774f65f73148a006a57d44064d5a"), looks := false }, kinds := [], alts := [], laidByText := true, laidKinds := [.data, .pinned, .pinned], laidTests := true, laidLooks := .later }
def GlyphAsksCardSaid : Prop := Claim7.holds Tryd.pinned (.plain (OpenSpec.ofChange glyphAsksSpec)) glyphAsksCard

/-- THE TIED CARD OF 'heliastlaw01.GlyphBack'. -/
def glyphBackCard : Claim7 := { stood := { row := glyphBackRow, standIns := [], harness := (true, "8997b7ca5b9aadf95f02a1b32bf30f586cd5774f65f73148a006a57d44064d5a"), looks := false }, kinds := [], alts := [], laidByText := true, laidKinds := [.data, .pinned, .pinned], laidTests := true, laidLooks := .later }
def GlyphBackCardSaid : Prop := Claim7.holds Tryd.pinned (.plain (OpenSpec.ofChange glyphBackSpec)) glyphBackCard

/-- THE TIED CARD OF 'heliastlaw01.GlyphTold'. -/
def glyphToldCard : Claim7 := { stood := { row := glyphToldRow, standIns := [], harness := (true, "8997b7ca5b9aadf95f02a1b32bf30f586cd5774f65f73148a006a57d44064d5a"), looks := false }, kinds := [], alts := [], laidByText := true, laidKinds := [.data, .pinned, .pinned], laidTests := true, laidLooks := .later }
def GlyphToldCardSaid : Prop := Claim7.holds Tryd.pinned (.plain (OpenSpec.ofChange glyphToldSpec)) glyphToldCard

/-- THE TIED CARD OF 'heliastlaw01.GlyphPairs'. -/
def glyphPairsCard : Claim7 := { stood := { row := glyphPairsRow, standIns := [], harness := (true, "8997b7ca5b9aadf95f02a1b32bf30f586cd5774f65f73148a006a57d44064d5a"), looks := false }, kinds := [], alts := [], laidByText := true, laidKinds := [.data, .pinned, .pinned], laidTests := true, laidLooks := .later }
def GlyphPairsCardSaid : Prop := Claim7.holds Tryd.pinned (.plain (OpenSpec.ofChange glyphPairsSpec)) glyphPairsCard

/-- THE TIED CARD OF 'heliastlaw01.GlyphLess'. -/
def glyphLessCard : Claim7 := { stood := { row := glyphLessRow, standIns := [], harness := (true, "8997b7ca5b9aadf95f02a1b32bf30f586cd5774f65f73148a006a57d44064d5a"), looks := false }, kinds := [], alts := [], laidByText := true, laidKinds := [.data, .pinned, .pinned], laidTests := true, laidLooks := .later }
def GlyphLessCardSaid : Prop := Claim7.holds Tryd.pinned (.plain (OpenSpec.ofChange glyphLessSpec)) glyphLessCard

/-- THE TIED CARD OF 'heliastlaw01.GlyphPlain'. -/
def glyphPlainCard : Claim7 := { stood := { row := glyphPlainRow, standIns := [], harness := (true, "8997b7ca5b9aadf95f02a1b32bf30f586cd5774f65f73148a006a57d44064d5a"), looks := false }, kinds := [], alts := [], laidByText := true, laidKinds := [.data, .pinned, .pinned], laidTests := true, laidLooks := .later }
def GlyphPlainCardSaid : Prop := Claim7.holds Tryd.pinned (.plain (OpenSpec.ofChange glyphPlainSpec)) glyphPlainCard

/-- THE TIED CARD OF 'heliastlaw01.GlyphJoin'. -/
def glyphJoinCard : Claim7 := { stood := { row := glyphJoinRow, standIns := [], harness := (true, "8997b7ca5b9aadf95f02a1b32bf30f586cd5774f65f73148a006a57d44064d5a"), looks := false }, kinds := [], alts := [], laidByText := true, laidKinds := [.data, .pinned, .pinned], laidTests := true, laidLooks := .later }
def GlyphJoinCardSaid : Prop := Claim7.holds Tryd.pinned (.plain (OpenSpec.ofChange glyphJoinSpec)) glyphJoinCard

/-- THE TIED CARD OF 'heliastlaw01.GlyphShort'. -/
def glyphShortCard : Claim7 := { stood := { row := glyphShortRow, standIns := [], harness := (true, "8997b7ca5b9aadf95f02a1b32bf30f586cd5774f65f73148a006a57d44064d5a"), looks := false }, kinds := [], alts := [], laidByText := true, laidKinds := [.data, .pinned, .pinned], laidTests := true, laidLooks := .later }
def GlyphShortCardSaid : Prop := Claim7.holds Tryd.pinned (.plain (OpenSpec.ofChange glyphShortSpec)) glyphShortCard

/-- THE SECOND FORM's CARD OF 'heliastlaw01.GlyphAsks'. -/
def glyphAsksUptoCard : Claim7 := { stood := { row := glyphAsksUptoRow, standIns := [], harness := (true, "8997b7ca5b9aadf95f02a1b32bf30f586cd5774f65f73148a006a57d44064d5a"), looks := false }, kinds := [], alts := [], laidByText := true, laidKinds := [.data, .pinned, .pinned], laidTests := true, laidLooks := .later }
def GlyphAsksUptoCardSaid : Prop := Claim7.holds Tryd.pinned (.plain (OpenSpec.upto glyphAsksSpec)) glyphAsksUptoCard

/-- THE SECOND FORM's CARD OF 'heliastlaw01.GlyphBack'. -/
def glyphBackUptoCard : Claim7 := { stood := { row := glyphBackUptoRow, standIns := [], harness := (true, "8997b7ca5b9aadf95f02a1b32bf30f586cd5774f65f73148a006a57d44064d5a"), looks := false }, kinds := [], alts := [], laidByText := true, laidKinds := [.data, .pinned, .pinned], laidTests := true, laidLooks := .later }
def GlyphBackUptoCardSaid : Prop := Claim7.holds Tryd.pinned (.plain (OpenSpec.upto glyphBackSpec)) glyphBackUptoCard

/-- THE SECOND FORM's CARD OF 'heliastlaw01.GlyphTold'. -/
def glyphToldUptoCard : Claim7 := { stood := { row := glyphToldUptoRow, standIns := [], harness := (true, "8997b7ca5b9aadf95f02a1b32bf30f586cd5774f65f73148a006a57d44064d5a"), looks := false }, kinds := [], alts := [], laidByText := true, laidKinds := [.data, .pinned, .pinned], laidTests := true, laidLooks := .later }
def GlyphToldUptoCardSaid : Prop := Claim7.holds Tryd.pinned (.plain (OpenSpec.upto glyphToldSpec)) glyphToldUptoCard

/-- THE SECOND FORM's CARD OF 'heliastlaw01.GlyphPairs'. -/
def glyphPairsUptoCard : Claim7 := { stood := { row := glyphPairsUptoRow, standIns := [], harness := (true, "8997b7ca5b9aadf95f02a1b32bf30f586cd5774f65f73148a006a57d44064d5a"), looks := false }, kinds := [], alts := [], laidByText := true, laidKinds := [.data, .pinned, .pinned], laidTests := true, laidLooks := .later }
def GlyphPairsUptoCardSaid : Prop := Claim7.holds Tryd.pinned (.plain (OpenSpec.upto glyphPairsSpec)) glyphPairsUptoCard

/-- THE SECOND FORM's CARD OF 'heliastlaw01.GlyphLess'. -/
def glyphLessUptoCard : Claim7 := { stood := { row := glyphLessUptoRow, standIns := [], harness := (true, "8997b7ca5b9aadf95f02a1b32bf30f586cd5774f65f73148a006a57d44064d5a"), looks := false }, kinds := [], alts := [], laidByText := true, laidKinds := [.data, .pinned, .pinned], laidTests := true, laidLooks := .later }
def GlyphLessUptoCardSaid : Prop := Claim7.holds Tryd.pinned (.plain (OpenSpec.upto glyphLessSpec)) glyphLessUptoCard

/-- THE SECOND FORM's CARD OF 'heliastlaw01.GlyphPlain'. -/
def glyphPlainUptoCard : Claim7 := { stood := { row := glyphPlainUptoRow, standIns := [], harness := (true, "8997b7ca5b9aadf95f02a1b32bf30f586cd5774f65f73148a006a57d44064d5a"), looks := false }, kinds := [], alts := [], laidByText := true, laidKinds := [.data, .pinned, .pinned], laidTests := true, laidLooks := .later }
def GlyphPlainUptoCardSaid : Prop := Claim7.holds Tryd.pinned (.plain (OpenSpec.upto glyphPlainSpec)) glyphPlainUptoCard

/-- THE SECOND FORM's CARD OF 'heliastlaw01.GlyphJoin'. -/
def glyphJoinUptoCard : Claim7 := { stood := { row := glyphJoinUptoRow, standIns := [], harness := (true, "8997b7ca5b9aadf95f02a1b32bf30f586cd5774f65f73148a006a57d44064d5a"), looks := false }, kinds := [], alts := [], laidByText := true, laidKinds := [.data, .pinned, .pinned], laidTests := true, laidLooks := .later }
def GlyphJoinUptoCardSaid : Prop := Claim7.holds Tryd.pinned (.plain (OpenSpec.upto glyphJoinSpec)) glyphJoinUptoCard

/-- THE SECOND FORM's CARD OF 'heliastlaw01.GlyphShort'. -/
def glyphShortUptoCard : Claim7 := { stood := { row := glyphShortUptoRow, standIns := [], harness := (true, "8997b7ca5b9aadf95f02a1b32bf30f586cd5774f65f73148a006a57d44064d5a"), looks := false }, kinds := [], alts := [], laidByText := true, laidKinds := [.data, .pinned, .pinned], laidTests := true, laidLooks := .later }
def GlyphShortUptoCardSaid : Prop := Claim7.holds Tryd.pinned (.plain (OpenSpec.upto glyphShortSpec)) glyphShortUptoCard
end Rows
end Go.Proofs.YtpibbokkdjjgeaaDoor
