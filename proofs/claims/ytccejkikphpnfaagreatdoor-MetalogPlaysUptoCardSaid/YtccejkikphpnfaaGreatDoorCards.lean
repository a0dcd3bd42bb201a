/-
  DERIVED. GIVEN WITH THE SEED: THE CARDS: each row of YtccejkikphpnfaaGreatDoorRows.lean that lists a variable, with what it lists TIED to the program's text (the seventh form; the later family's looks); each row that meets fmt, with fmt's text TOLD by the authors' own Lean function (tested against real Go, not proved from fmt's source: count such statements apart). THE CARD IS WHAT COUNTS. Prove the row's statement (the work); the ties are given (YtccejkikphpnfaaGreatDoorTie.lean); close each card by the builder's one call (the guide's Derived/Test/ToyasCard.lean, 'card_holds'). Laid BY PROGRAM, IN A SANDBOX (cutbox-door.mjs). By AI agents, Wed Nov 11 2026. No macro, syntax, notation, axiom, sorry.
-/
import Derived.Test.YtccejkikphpnfaaGreatDoorRows
import GoSem.ClaimSeven
namespace Go.Proofs.YtccejkikphpnfaaGreatDoor
namespace Rows

/-- THE TIED CARD OF 'ricklaw21.MetalogTells'. -/
def metalogTellsCard : Claim7 := { stood := { row := metalogTellsRow, standIns := [], harness := (true, "b60388af3aab03b11bb93a3aff3ad291aef62039b8479713a10d4b838c6a71a4"), looks := false }, kinds := [], alts := [], laidByText := true, laidKinds := [.data, .pinned], laidTests := true, laidLooks := .later }
def MetalogTellsCardSaid : Prop := Claim7.holds Tryz.pinned (.plain (OpenSpec.ofChange metalogTellsSpec)) metalogTellsCard

/-- THE TIED CARD OF 'ricklaw21.MetalogWaits'. -/
def metalogWaitsCard : Claim7 := { stood := { row := metalogWaitsRow, standIns := [], harness := (true, "b60388af3aab03b11bb93a3aff3ad291aef62039b8479713a10d4b838c6a71a4"), looks := false }, kinds := [], alts := [], laidByText := true, laidKinds := [.data, .pinned], laidTests := true, laidLooks := .later }
def MetalogWaitsCardSaid : Prop := Claim7.holds Tryz.pinned (.plain (OpenSpec.ofChange metalogWaitsSpec)) metalogWaitsCard

/-- THE TIED CARD OF 'ricklaw21.MetalogUndo'. -/
def metalogUndoCard : Claim7 := { stood := { row := metalogUndoRow, standIns := [], harness := (true, "b60388af3aab03b11bb93a3aff3ad291aef62039b8479713a10d4b838c6a71a4"), looks := false }, kinds := [], alts := [], laidByText := true, laidKinds := [.data, .pinned], laidTests := true, laidLooks := .later }
def MetalogUndoCardSaid : Prop := Claim7.holds Tryz.pinned (.plain (OpenSpec.ofChange metalogUndoSpec)) metalogUndoCard

/-- THE TIED CARD OF 'ricklaw21.MetalogForks'. -/
def metalogForksCard : Claim7 := { stood := { row := metalogForksRow, standIns := [], harness := (true, "b60388af3aab03b11bb93a3aff3ad291aef62039b8479713a10d4b838c6a71a4"), looks := false }, kinds := [], alts := [], laidByText := true, laidKinds := [.data, .pinned], laidTests := true, laidLooks := .later }
def MetalogForksCardSaid : Prop := Claim7.holds Tryz.pinned (.plain (OpenSpec.ofChange metalogForksSpec)) metalogForksCard

/-- THE TIED CARD OF 'ricklaw21.MetalogPlays'. -/
def metalogPlaysCard : Claim7 := { stood := { row := metalogPlaysRow, standIns := [], harness := (true, "b60388af3aab03b11bb93a3aff3ad291aef62039b8479713a10d4b838c6a71a4"), looks := false }, kinds := [], alts := [], laidByText := true, laidKinds := [.data, .pinned], laidTests := true, laidLooks := .later }
def MetalogPlaysCardSaid : Prop := Claim7.holds Tryz.pinned (.plain (OpenSpec.ofChange metalogPlaysSpec)) metalogPlaysCard

/-- THE TIED CARD OF 'ricklaw21.MetalogNil'. -/
def metalogNilCard : Claim7 := { stood := { row := metalogNilRow, standIns := [], harness := (true, "b60388af3aab03b11bb93a3aff3ad291aef62039b8479713a10d4b838c6a71a4"), looks := false }, kinds := [], alts := [], laidByText := true, laidKinds := [.data, .pinned], laidTests := true, laidLooks := .later }
def MetalogNilCardSaid : Prop := Claim7.holds Tryz.pinned (.plain (OpenSpec.ofChange metalogNilSpec)) metalogNilCard

/-- THE SECOND FORM's CARD OF 'ricklaw21.MetalogTells'. -/
def metalogTellsUptoCard : Claim7 := { stood := { row := metalogTellsUptoRow, standIns := [], harness := (true, "b60388af3aab03b11bb93a3aff3ad291aef62039b8479713a10d4b838c6a71a4"), looks := false }, kinds := [], alts := [], laidByText := true, laidKinds := [.data, .pinned], laidTests := true, laidLooks := .later }
def MetalogTellsUptoCardSaid : Prop := Claim7.holds Tryz.pinned (.plain (OpenSpec.upto metalogTellsSpec)) metalogTellsUptoCard

/-- THE SECOND FORM's CARD OF 'ricklaw21.MetalogWaits'. -/
def metalogWaitsUptoCard : Claim7 := { stood := { row := metalogWaitsUptoRow, standIns := [], harness := (true, "b60388af3aab03b11bb93a3aff3ad291aef62039b8479713a10d4b838c6a71a4"), looks := false }, kinds := [], alts := [], laidByText := true, laidKinds := [.data, .pinned], laidTests := true, laidLooks := .later }
def MetalogWaitsUptoCardSaid : Prop := Claim7.holds Tryz.pinned (.plain (OpenSpec.upto metalogWaitsSpec)) metalogWaitsUptoCard

/-- THE SECOND FORM's CARD OF 'ricklaw21.MetalogUndo'. -/
def metalogUndoUptoCard : Claim7 := { stood := { row := metalogUndoUptoRow, standIns := [], harness := (true, "b60388af3aab03b11bb93a3aff3ad291aef62039b8479713a10d4b838c6a71a4"), looks := false }, kinds := [], alts := [], laidByText := true, laidKinds := [.data, .pinned], laidTests := true, laidLooks := .later }
def MetalogUndoUptoCardSaid : Prop := Claim7.holds Tryz.pinned (.plain (OpenSpec.upto metalogUndoSpec)) metalogUndoUptoCard

/-- THE SECOND FORM's CARD OF 'ricklaw21.MetalogForks'. -/
def metalogForksUptoCard : Claim7 := { stood := { row := metalogForksUptoRow, standIns := [], harness := (true, "b60388af3aab03b11bb93a3aff3ad291aef62039b8479713a10d4b838c6a71a4"), looks := false }, kinds := [], alts := [], laidByText := true, laidKinds := [.data, .pinned], laidTests := true, laidLooks := .later }
def MetalogForksUptoCardSaid : Prop := Claim7.holds Tryz.pinned (.plain (OpenSpec.upto metalogForksSpec)) metalogForksUptoCard

/-- THE SECOND FORM's CARD OF 'ricklaw21.MetalogPlays'. -/
def metalogPlaysUptoCard : Claim7 := { stood := { row := metalogPlaysUptoRow, standIns := [], harness := (true, "b60388af3aab03b11bb93a3aff3ad291aef62039b8479713a10d4b838c6a71a4"), looks := false }, kinds := [], alts := [], laidByText := true, laidKinds := [.data, .pinned], laidTests := true, laidLooks := .later }
def MetalogPlaysUptoCardSaid : Prop := Claim7.holds Tryz.pinned (.plain (OpenSpec.upto metalogPlaysSpec)) metalogPlaysUptoCard

/-- THE SECOND FORM's CARD OF 'ricklaw21.MetalogNil'. -/
def metalogNilUptoCard : Claim7 := { stood := { row := metalogNilUptoRow, standIns := [], harness := (true, "b60388af3aab03b11bb93a3aff3ad291aef62039b8479713a10d4b838c6a71a4"), looks := false }, kinds := [], alts := [], laidByText := true, laidKinds := [.data, .pinned], laidTests := true, laidLooks := .later }
def MetalogNilUptoCardSaid : Prop := Claim7.holds Tryz.pinned (.plain (OpenSpec.upto metalogNilSpec)) metalogNilUptoCard
end Rows
end Go.Proofs.YtccejkikphpnfaaGreatDoor
