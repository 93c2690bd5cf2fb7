/-
  DERIVED. GIVEN WITH THE SEED: THE CARDS: each row of YtkdicgendcdooaaDoorRows.lean that lists a variable, with what it lists TIED to the program's text (the seventh form; the later family's looks); each row that meets fmt, with fmt's text TOLD by the authors' own Lean function (tested against real Go, not proved from fmt's source: count such statements apart). THE CARD IS WHAT COUNTS. Prove the row's statement (the work); the ties are given (YtkdicgendcdooaaDoorTie.lean); close each card by the builder's one call (the guide's Derived/Test/ToyasCard.lean, 'card_holds'). Laid BY PROGRAM, IN A SANDBOX (cutbox-door.mjs). By AI agents, Wed Nov 11 2026. No macro, syntax, notation, axiom, sorry.
-/
import Derived.Test.YtkdicgendcdooaaDoorRows
import GoSem.ClaimSeven
namespace Go.Proofs.YtkdicgendcdooaaDoor
namespace Rows

/-- THE TIED CARD OF 'heliastlaw14.PowerNone'. -/
def powerNoneCard : Claim7 := { stood := { row := powerNoneRow, standIns := [], harness := (true, "4f1c08a675811627051cff13577676a97a6e49129b751d86a50caffb64183432"), looks := false }, kinds := [], alts := [], laidByText := true, laidKinds := [.listed, .data], laidTests := true, laidLooks := .later }
def PowerNoneCardSaid : Prop := Claim7.holds Tryd.pinned (.plain (OpenSpec.ofChange powerNoneSpec)) powerNoneCard

/-- THE TIED CARD OF 'heliastlaw14.PowerNamed'. -/
def powerNamedCard : Claim7 := { stood := { row := powerNamedRow, standIns := [], harness := (true, "4f1c08a675811627051cff13577676a97a6e49129b751d86a50caffb64183432"), looks := false }, kinds := [], alts := [], laidByText := true, laidKinds := [.listed, .data], laidTests := true, laidLooks := .later }
def PowerNamedCardSaid : Prop := Claim7.holds Tryd.pinned (.plain (OpenSpec.ofChange powerNamedSpec)) powerNamedCard

/-- THE TIED CARD OF 'heliastlaw14.PowerValid'. -/
def powerValidCard : Claim7 := { stood := { row := powerValidRow, standIns := [], harness := (true, "4f1c08a675811627051cff13577676a97a6e49129b751d86a50caffb64183432"), looks := false }, kinds := [], alts := [], laidByText := true, laidKinds := [.listed, .data], laidTests := true, laidLooks := .later }
def PowerValidCardSaid : Prop := Claim7.holds Tryd.pinned (.plain (OpenSpec.ofChange powerValidSpec)) powerValidCard

/-- THE TIED CARD OF 'heliastlaw14.PowerAsks'. -/
def powerAsksCard : Claim7 := { stood := { row := powerAsksRow, standIns := [], harness := (true, "4f1c08a675811627051cff13577676a97a6e49129b751d86a50caffb64183432"), looks := false }, kinds := [], alts := [], laidByText := true, laidKinds := [.listed, .data], laidTests := true, laidLooks := .later }
def PowerAsksCardSaid : Prop := Claim7.holds Tryd.pinned (.plain (OpenSpec.ofChange powerAsksSpec)) powerAsksCard

/-- THE TIED CARD OF 'heliastlaw14.PowerRaise'. -/
def powerRaiseCard : Claim7 := { stood := { row := powerRaiseRow, standIns := [], harness := (true, "4f1c08a675811627051cff13577676a97a6e49129b751d86a50caffb64183432"), looks := false }, kinds := [], alts := [], laidByText := true, laidKinds := [.listed, .data], laidTests := true, laidLooks := .later }
def PowerRaiseCardSaid : Prop := Claim7.holds Tryd.pinned (.plain (OpenSpec.ofChange powerRaiseSpec)) powerRaiseCard

/-- THE TIED CARD OF 'heliastlaw14.PowerSame'. -/
def powerSameCard : Claim7 := { stood := { row := powerSameRow, standIns := [], harness := (true, "4f1c08a675811627051cff13577676a97a6e49129b751d86a50caffb64183432"), looks := false }, kinds := [], alts := [], laidByText := true, laidKinds := [.listed, .data], laidTests := true, laidLooks := .later }
def PowerSameCardSaid : Prop := Claim7.holds Tryd.pinned (.plain (OpenSpec.ofChange powerSameSpec)) powerSameCard

/-- THE TIED CARD OF 'heliastlaw14.PowerMore'. -/
def powerMoreCard : Claim7 := { stood := { row := powerMoreRow, standIns := [], harness := (true, "4f1c08a675811627051cff13577676a97a6e49129b751d86a50caffb64183432"), looks := false }, kinds := [], alts := [], laidByText := true, laidKinds := [.listed, .data], laidTests := true, laidLooks := .later }
def PowerMoreCardSaid : Prop := Claim7.holds Tryd.pinned (.plain (OpenSpec.ofChange powerMoreSpec)) powerMoreCard

/-- THE TIED CARD OF 'heliastlaw14.PowerOwn'. -/
def powerOwnCard : Claim7 := { stood := { row := powerOwnRow, standIns := [], harness := (true, "4f1c08a675811627051cff13577676a97a6e49129b751d86a50caffb64183432"), looks := false }, kinds := [], alts := [], laidByText := true, laidKinds := [.listed, .data], laidTests := true, laidLooks := .later }
def PowerOwnCardSaid : Prop := Claim7.holds Tryd.pinned (.plain (OpenSpec.ofChange powerOwnSpec)) powerOwnCard

/-- THE SECOND FORM's CARD OF 'heliastlaw14.PowerNone'. -/
def powerNoneUptoCard : Claim7 := { stood := { row := powerNoneUptoRow, standIns := [], harness := (true, "4f1c08a675811627051cff13577676a97a6e49129b751d86a50caffb64183432"), looks := false }, kinds := [], alts := [], laidByText := true, laidKinds := [.listed, .data], laidTests := true, laidLooks := .later }
def PowerNoneUptoCardSaid : Prop := Claim7.holds Tryd.pinned (.plain (OpenSpec.upto powerNoneSpec)) powerNoneUptoCard

/-- THE SECOND FORM's CARD OF 'heliastlaw14.PowerNamed'. -/
def powerNamedUptoCard : Claim7 := { stood := { row := powerNamedUptoRow, standIns := [], harness := (true, "4f1c08a675811627051cff13577676a97a6e49129b751d86a50caffb64183432"), looks := false }, kinds := [], alts := [], laidByText := true, laidKinds := [.listed, .data], laidTests := true, laidLooks := .later }
def PowerNamedUptoCardSaid : Prop := Claim7.holds Tryd.pinned (.plain (OpenSpec.upto powerNamedSpec)) powerNamedUptoCard

/-- THE SECOND FORM's CARD OF 'heliastlaw14.PowerValid'. -/
def powerValidUptoCard : Claim7 := { stood := { row := powerValidUptoRow, standIns := [], harness := (true, "4f1c08a675811627051cff13577676a97a6e49129b751d86a50caffb64183432"), looks := false }, kinds := [], alts := [], laidByText := true, laidKinds := [.listed, .data], laidTests := true, laidLooks := .later }
def PowerValidUptoCardSaid : Prop := Claim7.holds Tryd.pinned (.plain (OpenSpec.upto powerValidSpec)) powerValidUptoCard

/-- THE SECOND FORM's CARD OF 'heliastlaw14.PowerAsks'. -/
def powerAsksUptoCard : Claim7 := { stood := { row := powerAsksUptoRow, standIns := [], harness := (true, "4f1c08a675811627051cff13577676a97a6e49129b751d86a50caffb64183432"), looks := false }, kinds := [], alts := [], laidByText := true, laidKinds := [.listed, .data], laidTests := true, laidLooks := .later }
def PowerAsksUptoCardSaid : Prop := Claim7.holds Tryd.pinned (.plain (OpenSpec.upto powerAsksSpec)) powerAsksUptoCard

/-- THE SECOND FORM's CARD OF 'heliastlaw14.PowerRaise'. -/
def powerRaiseUptoCard : Claim7 := { stood := { row := powerRaiseUptoRow, standIns := [], harness := (true, "4f1c08a675811627051cff13577676a97a6e49129b751d86a50caffb64183432"), looks := false }, kinds := [], alts := [], laidByText := true, laidKinds := [.listed, .data], laidTests := true, laidLooks := .later }
def PowerRaiseUptoCardSaid : Prop := Claim7.holds Tryd.pinned (.plain (OpenSpec.upto powerRaiseSpec)) powerRaiseUptoCard

/-- THE SECOND FORM's CARD OF 'heliastlaw14.PowerSame'. -/
def powerSameUptoCard : Claim7 := { stood := { row := powerSameUptoRow, standIns := [], harness := (true, "4f1c08a675811627051cff13577676a97a6e49129b751d86a50caffb64183432"), looks := false }, kinds := [], alts := [], laidByText := true, laidKinds := [.listed, .data], laidTests := true, laidLooks := .later }
def PowerSameUptoCardSaid : Prop := Claim7.holds Tryd.pinned (.plain (OpenSpec.upto powerSameSpec)) powerSameUptoCard

/-- THE SECOND FORM's CARD OF 'heliastlaw14.PowerMore'. -/
def powerMoreUptoCard : Claim7 := { stood := { row := powerMoreUptoRow, standIns := [], harness := (true, "4f1c08a675811627051cff13577676a97a6e49129b751d86a50caffb64183432"), looks := false }, kinds := [], alts := [], laidByText := true, laidKinds := [.listed, .data], laidTests := true, laidLooks := .later }
def PowerMoreUptoCardSaid : Prop := Claim7.holds Tryd.pinned (.plain (OpenSpec.upto powerMoreSpec)) powerMoreUptoCard

/-- THE SECOND FORM's CARD OF 'heliastlaw14.PowerOwn'. -/
def powerOwnUptoCard : Claim7 := { stood := { row := powerOwnUptoRow, standIns := [], harness := (true, "4f1c08a675811627051cff13577676a97a6e49129b751d86a50caffb64183432"), looks := false }, kinds := [], alts := [], laidByText := true, laidKinds := [.listed, .data], laidTests := true, laidLooks := .later }
def PowerOwnUptoCardSaid : Prop := Claim7.holds Tryd.pinned (.plain (OpenSpec.upto powerOwnSpec)) powerOwnUptoCard
end Rows
end Go.Proofs.YtkdicgendcdooaaDoor
