/-
  DERIVED. GIVEN WITH THE SEED: THE CARDS: each row of YteefceainlfdfaaDoorRows.lean that lists a variable, with what it lists TIED to the program's text (the seventh form; the later family's looks); each row that meets fmt, with fmt's text TOLD by the authors' own Lean function (tested against real Go, not proved from fmt's source: count such statements apart). THE CARD IS WHAT COUNTS. Prove the row's statement (the work); the ties are given (YteefceainlfdfaaDoorTie.lean); close each card by the builder's one call (the guide's Derived/Test/ToyasCard.lean, 'card_holds'). Laid BY PROGRAM, IN A SANDBOX (cutbox-door.mjs). By AI agents, Wed Nov 11 2026. No macro, syntax, notation, axiom, sorry.
-/
import Derived.Test.YteefceainlfdfaaDoorRows
import GoSem.ClaimSeven
namespace Go.Proofs.YteefceainlfdfaaDoor
namespace Rows

/-- THE TIED CARD OF 'ricklaw25.CommandBounds'. -/
def commandBoundsCard : Claim7 := { stood := { row := commandBoundsRow, standIns := [], harness := (true, "7a7df67103a966167aea5a07e496dbc63e76d1cf000eb07433b48d149e5585a3"), looks := false }, kinds := [], alts := [], laidByText := true, laidKinds := [.data, .pinned], laidTests := true, laidLooks := .later }
def CommandBoundsCardSaid : Prop := Claim7.holds Tryd.pinned (.plain (OpenSpec.ofChange commandBoundsSpec)) commandBoundsCard

/-- THE TIED CARD OF 'ricklaw25.CommandWrong'. -/
def commandWrongCard : Claim7 := { stood := { row := commandWrongRow, standIns := [], harness := (true, "7a7df67103a966167aea5a07e496dbc63e76d1cf000eb07433b48d149e5585a3"), looks := false }, kinds := [], alts := [], laidByText := true, laidKinds := [.data, .pinned], laidTests := true, laidLooks := .later }
def CommandWrongCardSaid : Prop := Claim7.holds Tryd.pinned (.plain (OpenSpec.ofChange commandWrongSpec)) commandWrongCard

/-- THE TIED CARD OF 'ricklaw15.ObjectWrites'. -/
def objectWritesCard : Claim7 := { stood := { row := objectWritesRow, standIns := [], harness := (true, "7a7df67103a966167aea5a07e496dbc63e76d1cf000eb07433b48d149e5585a3"), looks := false }, kinds := [], alts := [], laidByText := true, laidKinds := [.data, .pinned], laidTests := true, laidLooks := .later }
def ObjectWritesCardSaid : Prop := Claim7.holds Tryd.pinned (.plain (OpenSpec.ofChange objectWritesSpec)) objectWritesCard

/-- THE TIED CARD OF 'ricklaw15.ObjectBounds'. -/
def objectBoundsCard : Claim7 := { stood := { row := objectBoundsRow, standIns := [], harness := (true, "7a7df67103a966167aea5a07e496dbc63e76d1cf000eb07433b48d149e5585a3"), looks := false }, kinds := [], alts := [], laidByText := true, laidKinds := [.data, .pinned], laidTests := true, laidLooks := .later }
def ObjectBoundsCardSaid : Prop := Claim7.holds Tryd.pinned (.plain (OpenSpec.ofChange objectBoundsSpec)) objectBoundsCard

/-- THE TIED CARD OF 'ricklaw25.CommandTells'. -/
def commandTellsCard : Claim7 := { stood := { row := commandTellsRow, standIns := [], harness := (true, "7a7df67103a966167aea5a07e496dbc63e76d1cf000eb07433b48d149e5585a3"), looks := false }, kinds := [], alts := [], laidByText := true, laidKinds := [.data, .pinned], laidTests := true, laidLooks := .later }
def CommandTellsCardSaid : Prop := Claim7.holds Tryd.pinned (.plain (OpenSpec.ofChange commandTellsSpec)) commandTellsCard

/-- THE TIED CARD OF 'ricklaw25.CommandBack'. -/
def commandBackCard : Claim7 := { stood := { row := commandBackRow, standIns := [], harness := (true, "7a7df67103a966167aea5a07e496dbc63e76d1cf000eb07433b48d149e5585a3"), looks := false }, kinds := [], alts := [], laidByText := true, laidKinds := [.data, .pinned], laidTests := true, laidLooks := .later }
def CommandBackCardSaid : Prop := Claim7.holds Tryd.pinned (.plain (OpenSpec.ofChange commandBackSpec)) commandBackCard

/-- THE TIED CARD OF 'ricklaw15.ObjectTakes'. -/
def objectTakesCard : Claim7 := { stood := { row := objectTakesRow, standIns := [], harness := (true, "7a7df67103a966167aea5a07e496dbc63e76d1cf000eb07433b48d149e5585a3"), looks := false }, kinds := [], alts := [], laidByText := true, laidKinds := [.data, .pinned], laidTests := true, laidLooks := .later }
def ObjectTakesCardSaid : Prop := Claim7.holds Tryd.pinned (.plain (OpenSpec.ofChange objectTakesSpec)) objectTakesCard

/-- THE TIED CARD OF 'ricklaw15.ObjectBack'. -/
def objectBackCard : Claim7 := { stood := { row := objectBackRow, standIns := [], harness := (true, "7a7df67103a966167aea5a07e496dbc63e76d1cf000eb07433b48d149e5585a3"), looks := false }, kinds := [], alts := [], laidByText := true, laidKinds := [.data, .pinned], laidTests := true, laidLooks := .later }
def ObjectBackCardSaid : Prop := Claim7.holds Tryd.pinned (.plain (OpenSpec.ofChange objectBackSpec)) objectBackCard

/-- THE SECOND FORM's CARD OF 'ricklaw25.CommandBounds'. -/
def commandBoundsUptoCard : Claim7 := { stood := { row := commandBoundsUptoRow, standIns := [], harness := (true, "7a7df67103a966167aea5a07e496dbc63e76d1cf000eb07433b48d149e5585a3"), looks := false }, kinds := [], alts := [], laidByText := true, laidKinds := [.data, .pinned], laidTests := true, laidLooks := .later }
def CommandBoundsUptoCardSaid : Prop := Claim7.holds Tryd.pinned (.plain (OpenSpec.upto commandBoundsSpec)) commandBoundsUptoCard

/-- THE SECOND FORM's CARD OF 'ricklaw25.CommandWrong'. -/
def commandWrongUptoCard : Claim7 := { stood := { row := commandWrongUptoRow, standIns := [], harness := (true, "7a7df67103a966167aea5a07e496dbc63e76d1cf000eb07433b48d149e5585a3"), looks := false }, kinds := [], alts := [], laidByText := true, laidKinds := [.data, .pinned], laidTests := true, laidLooks := .later }
def CommandWrongUptoCardSaid : Prop := Claim7.holds Tryd.pinned (.plain (OpenSpec.upto commandWrongSpec)) commandWrongUptoCard

/-- THE SECOND FORM's CARD OF 'ricklaw15.ObjectWrites'. -/
def objectWritesUptoCard : Claim7 := { stood := { row := objectWritesUptoRow, standIns := [], harness := (true, "7a7df67103a966167aea5a07e496dbc63e76d1cf000eb07433b48d149e5585a3"), looks := false }, kinds := [], alts := [], laidByText := true, laidKinds := [.data, .pinned], laidTests := true, laidLooks := .later }
def ObjectWritesUptoCardSaid : Prop := Claim7.holds Tryd.pinned (.plain (OpenSpec.upto objectWritesSpec)) objectWritesUptoCard

/-- THE SECOND FORM's CARD OF 'ricklaw15.ObjectBounds'. -/
def objectBoundsUptoCard : Claim7 := { stood := { row := objectBoundsUptoRow, standIns := [], harness := (true, "7a7df67103a966167aea5a07e496dbc63e76d1cf000eb07433b48d149e5585a3"), looks := false }, kinds := [], alts := [], laidByText := true, laidKinds := [.data, .pinned], laidTests := true, laidLooks := .later }
def ObjectBoundsUptoCardSaid : Prop := Claim7.holds Tryd.pinned (.plain (OpenSpec.upto objectBoundsSpec)) objectBoundsUptoCard

/-- THE SECOND FORM's CARD OF 'ricklaw25.CommandTells'. -/
def commandTellsUptoCard : Claim7 := { stood := { row := commandTellsUptoRow, standIns := [], harness := (true, "7a7df67103a966167aea5a07e496dbc63e76d1cf000eb07433b48d149e5585a3"), looks := false }, kinds := [], alts := [], laidByText := true, laidKinds := [.data, .pinned], laidTests := true, laidLooks := .later }
def CommandTellsUptoCardSaid : Prop := Claim7.holds Tryd.pinned (.plain (OpenSpec.upto commandTellsSpec)) commandTellsUptoCard

/-- THE SECOND FORM's CARD OF 'ricklaw25.CommandBack'. -/
def commandBackUptoCard : Claim7 := { stood := { row := commandBackUptoRow, standIns := [], harness := (true, "7a7df67103a966167aea5a07e496dbc63e76d1cf000eb07433b48d149e5585a3"), looks := false }, kinds := [], alts := [], laidByText := true, laidKinds := [.data, .pinned], laidTests := true, laidLooks := .later }
def CommandBackUptoCardSaid : Prop := Claim7.holds Tryd.pinned (.plain (OpenSpec.upto commandBackSpec)) commandBackUptoCard

/-- THE SECOND FORM's CARD OF 'ricklaw15.ObjectTakes'. -/
def objectTakesUptoCard : Claim7 := { stood := { row := objectTakesUptoRow, standIns := [], harness := (true, "7a7df67103a966167aea5a07e496dbc63e76d1cf000eb07433b48d149e5585a3"), looks := false }, kinds := [], alts := [], laidByText := true, laidKinds := [.data, .pinned], laidTests := true, laidLooks := .later }
def ObjectTakesUptoCardSaid : Prop := Claim7.holds Tryd.pinned (.plain (OpenSpec.upto objectTakesSpec)) objectTakesUptoCard

/-- THE SECOND FORM's CARD OF 'ricklaw15.ObjectBack'. -/
def objectBackUptoCard : Claim7 := { stood := { row := objectBackUptoRow, standIns := [], harness := (true, "7a7df67103a966167aea5a07e496dbc63e76d1cf000eb07433b48d149e5585a3"), looks := false }, kinds := [], alts := [], laidByText := true, laidKinds := [.data, .pinned], laidTests := true, laidLooks := .later }
def ObjectBackUptoCardSaid : Prop := Claim7.holds Tryd.pinned (.plain (OpenSpec.upto objectBackSpec)) objectBackUptoCard
end Rows
end Go.Proofs.YteefceainlfdfaaDoor
