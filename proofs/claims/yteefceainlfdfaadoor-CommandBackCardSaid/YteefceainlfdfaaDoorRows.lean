/-
  NARROWER THAN 'FOR EVERY INPUT', by the rows' own cells (each row's printed sentence says how): CommandBounds: laid · CommandWrong: laid · ObjectWrites: laid · ObjectBounds: laid · CommandTells: laid · CommandBack: laid · ObjectTakes: laid · ObjectBack: laid.
  DERIVED. THE GIVEN ROWS OF THIS SEAT. 8 by the template 'for every input the law returns true; each argument reads behind the call as it read before'; 0 by the template 'total and deterministic' (their statements: YteefceainlfdfaaDoorTotals.lean).
  GIVEN WITH THE SEED: the statements are not yours to turn. If you find one false, say at which input.
  Laid BY PROGRAM, IN A SANDBOX (cutbox-rows.mjs): the forced cells as the released guide's own fill.sh prints them over the translation 7dd989315192bacc… (all of the seat's roots in one cut). By AI agents, Wed Nov 11 2026. No macro, syntax, notation, axiom, sorry.
-/
import Derived.Test.YteefceainlfdfaaDoorChecked
import GoSem.PinnedTables
import GoSem.Claim
import GoSem.ClaimJoined
import GoSem.ClaimMapViews
import Derived.JoinedTies
import Derived.KernelRfl
namespace Go.Proofs.YteefceainlfdfaaDoor
/- THE CELL 'sum', in the pinned program and in every row, IS THE sha256 OF THE DUMP (.gsa) THAT YteefceainlfdfaaDoorProg.lean LOADS. Nothing in Lean hashes anything: it is a label: what it is worth is what the hold of that sum in a sandbox is worth. -/
noncomputable def Tryd.pinned : Pinned := { name := "yteefceainlfdfaadoor", sum := "7dd989315192baccb275a40f9729769aca6d08aa6375a6e3459bd9f030707230", checked := Tryd.checked }
namespace Rows
def none {H : Type} : Left H := { results := [], args := [] }

/- WHAT THE LISTED PACKAGE-LEVEL VARIABLES READ AS WHEN THE CALL BEGINS. Each datum BY PROGRAM (the guide's laid-datum.mjs) off the statement by which the dump's own 'gosem.cut.vars' lays the variable. In a bare row this is a premise. The card (YteefceainlfdfaaDoorCards.lean) ties it to the program's text. -/
def laid_unicode_utf8_acceptRanges {H : Type} : DataW H := .agg [.agg [.lit (.int .u8 128), .lit (.int .u8 191)], .agg [.lit (.int .u8 160), .lit (.int .u8 191)], .agg [.lit (.int .u8 128), .lit (.int .u8 159)], .agg [.lit (.int .u8 144), .lit (.int .u8 191)], .agg [.lit (.int .u8 128), .lit (.int .u8 143)], .agg [.lit (.int .u8 0), .lit (.int .u8 0)], .agg [.lit (.int .u8 0), .lit (.int .u8 0)], .agg [.lit (.int .u8 0), .lit (.int .u8 0)], .agg [.lit (.int .u8 0), .lit (.int .u8 0)], .agg [.lit (.int .u8 0), .lit (.int .u8 0)], .agg [.lit (.int .u8 0), .lit (.int .u8 0)], .agg [.lit (.int .u8 0), .lit (.int .u8 0)], .agg [.lit (.int .u8 0), .lit (.int .u8 0)], .agg [.lit (.int .u8 0), .lit (.int .u8 0)], .agg [.lit (.int .u8 0), .lit (.int .u8 0)], .agg [.lit (.int .u8 0), .lit (.int .u8 0)]]
/-- One of Go's own tables, pinned by name: the form's constant. -/
def laid_unicode_utf8_first : DataW Unit := Go.Pinned.utf8First

/-- 'ricklaw25.CommandBounds': WHATEVER THE INPUT: true; the input reads as it did. -/
def commandBoundsSpec : ChangeSpec := { name := "commandBounds", fn := fun _ => fun
  | [d1, d2] => { results := [.lit (.bool true)], args := [d1, d2] }
  | _ => none }
def commandBoundsRow : OpenClaim := { program := "yteefceainlfdfaadoor", sum := "7dd989315192baccb275a40f9729769aca6d08aa6375a6e3459bd9f030707230", func := "rick/ricklaw25.CommandBounds", spec := "commandBounds", inPlace := ["internal/bytealg.CountString", "internal/bytealg.IndexByteString", "internal/bytealg.IndexString"], unfollowed := true, recurses := true, named := ["unicode/utf8.first", "unicode/utf8.acceptRanges", "internal/bytealg.MaxLen"], apart := false, laid := [("unicode/utf8.acceptRanges", laid_unicode_utf8_acceptRanges), ("unicode/utf8.first", laid_unicode_utf8_first)] }
def CommandBoundsSaid : Prop := commandBoundsRow.holds Tryd.pinned (OpenSpec.ofChange commandBoundsSpec)

/-- ITS FALSE NEIGHBOUR: 'it returns false'. Refute it at one input. -/
def commandBoundsWrong : ChangeSpec := { name := "commandBounds", fn := fun _ => fun
  | [d1, d2] => { results := [.lit (.bool false)], args := [d1, d2] }
  | _ => none }
def CommandBoundsWrongFalsely : Prop := commandBoundsRow.holds Tryd.pinned (OpenSpec.ofChange commandBoundsWrong)

/-- 'ricklaw25.CommandWrong': WHATEVER THE INPUT: true; the input reads as it did. -/
def commandWrongSpec : ChangeSpec := { name := "commandWrong", fn := fun _ => fun
  | [d1, d2, d3] => { results := [.lit (.bool true)], args := [d1, d2, d3] }
  | _ => none }
def commandWrongRow : OpenClaim := { program := "yteefceainlfdfaadoor", sum := "7dd989315192baccb275a40f9729769aca6d08aa6375a6e3459bd9f030707230", func := "rick/ricklaw25.CommandWrong", spec := "commandWrong", inPlace := ["internal/bytealg.CountString", "internal/bytealg.IndexByteString", "internal/bytealg.IndexString"], unfollowed := true, recurses := true, named := ["unicode/utf8.first", "unicode/utf8.acceptRanges", "internal/bytealg.MaxLen"], apart := false, laid := [("unicode/utf8.acceptRanges", laid_unicode_utf8_acceptRanges), ("unicode/utf8.first", laid_unicode_utf8_first)] }
def CommandWrongSaid : Prop := commandWrongRow.holds Tryd.pinned (OpenSpec.ofChange commandWrongSpec)

/-- ITS FALSE NEIGHBOUR: 'it returns false'. Refute it at one input. -/
def commandWrongWrong : ChangeSpec := { name := "commandWrong", fn := fun _ => fun
  | [d1, d2, d3] => { results := [.lit (.bool false)], args := [d1, d2, d3] }
  | _ => none }
def CommandWrongWrongFalsely : Prop := commandWrongRow.holds Tryd.pinned (OpenSpec.ofChange commandWrongWrong)

/-- 'ricklaw15.ObjectWrites': WHATEVER THE INPUT: true; the input reads as it did. -/
def objectWritesSpec : ChangeSpec := { name := "objectWrites", fn := fun _ => fun
  | [d1, d2, d3] => { results := [.lit (.bool true)], args := [d1, d2, d3] }
  | _ => none }
def objectWritesRow : OpenClaim := { program := "yteefceainlfdfaadoor", sum := "7dd989315192baccb275a40f9729769aca6d08aa6375a6e3459bd9f030707230", func := "rick/ricklaw15.ObjectWrites", spec := "objectWrites", inPlace := ["internal/bytealg.CountString", "internal/bytealg.IndexByteString", "internal/bytealg.IndexString"], unfollowed := true, recurses := true, named := ["unicode/utf8.first", "unicode/utf8.acceptRanges", "internal/bytealg.MaxLen"], apart := false, laid := [("unicode/utf8.acceptRanges", laid_unicode_utf8_acceptRanges), ("unicode/utf8.first", laid_unicode_utf8_first)] }
def ObjectWritesSaid : Prop := objectWritesRow.holds Tryd.pinned (OpenSpec.ofChange objectWritesSpec)

/-- ITS FALSE NEIGHBOUR: 'it returns false'. Refute it at one input. -/
def objectWritesWrong : ChangeSpec := { name := "objectWrites", fn := fun _ => fun
  | [d1, d2, d3] => { results := [.lit (.bool false)], args := [d1, d2, d3] }
  | _ => none }
def ObjectWritesWrongFalsely : Prop := objectWritesRow.holds Tryd.pinned (OpenSpec.ofChange objectWritesWrong)

/-- 'ricklaw15.ObjectBounds': WHATEVER THE INPUT: true; the input reads as it did. -/
def objectBoundsSpec : ChangeSpec := { name := "objectBounds", fn := fun _ => fun
  | [d1, d2, d3] => { results := [.lit (.bool true)], args := [d1, d2, d3] }
  | _ => none }
def objectBoundsRow : OpenClaim := { program := "yteefceainlfdfaadoor", sum := "7dd989315192baccb275a40f9729769aca6d08aa6375a6e3459bd9f030707230", func := "rick/ricklaw15.ObjectBounds", spec := "objectBounds", inPlace := ["internal/bytealg.CountString", "internal/bytealg.IndexByteString", "internal/bytealg.IndexString"], unfollowed := true, recurses := true, named := ["unicode/utf8.first", "unicode/utf8.acceptRanges", "internal/bytealg.MaxLen"], apart := false, laid := [("unicode/utf8.acceptRanges", laid_unicode_utf8_acceptRanges), ("unicode/utf8.first", laid_unicode_utf8_first)] }
def ObjectBoundsSaid : Prop := objectBoundsRow.holds Tryd.pinned (OpenSpec.ofChange objectBoundsSpec)

/-- ITS FALSE NEIGHBOUR: 'it returns false'. Refute it at one input. -/
def objectBoundsWrong : ChangeSpec := { name := "objectBounds", fn := fun _ => fun
  | [d1, d2, d3] => { results := [.lit (.bool false)], args := [d1, d2, d3] }
  | _ => none }
def ObjectBoundsWrongFalsely : Prop := objectBoundsRow.holds Tryd.pinned (OpenSpec.ofChange objectBoundsWrong)

/-- 'ricklaw25.CommandTells': WHATEVER THE INPUT: true; the input reads as it did. -/
def commandTellsSpec : ChangeSpec := { name := "commandTells", fn := fun _ => fun
  | [d1, d2] => { results := [.lit (.bool true)], args := [d1, d2] }
  | _ => none }
def commandTellsRow : OpenClaim := { program := "yteefceainlfdfaadoor", sum := "7dd989315192baccb275a40f9729769aca6d08aa6375a6e3459bd9f030707230", func := "rick/ricklaw25.CommandTells", spec := "commandTells", inPlace := ["internal/bytealg.CountString", "internal/bytealg.IndexByteString", "internal/bytealg.IndexString"], unfollowed := true, recurses := true, named := ["unicode/utf8.first", "unicode/utf8.acceptRanges", "internal/bytealg.MaxLen"], apart := false, laid := [("unicode/utf8.acceptRanges", laid_unicode_utf8_acceptRanges), ("unicode/utf8.first", laid_unicode_utf8_first)] }
def CommandTellsSaid : Prop := commandTellsRow.holds Tryd.pinned (OpenSpec.ofChange commandTellsSpec)

/-- ITS FALSE NEIGHBOUR: 'it returns false'. Refute it at one input. -/
def commandTellsWrong : ChangeSpec := { name := "commandTells", fn := fun _ => fun
  | [d1, d2] => { results := [.lit (.bool false)], args := [d1, d2] }
  | _ => none }
def CommandTellsWrongFalsely : Prop := commandTellsRow.holds Tryd.pinned (OpenSpec.ofChange commandTellsWrong)

/-- 'ricklaw25.CommandBack': WHATEVER THE INPUT: true; the input reads as it did. -/
def commandBackSpec : ChangeSpec := { name := "commandBack", fn := fun _ => fun
  | [d1, d2, d3] => { results := [.lit (.bool true)], args := [d1, d2, d3] }
  | _ => none }
def commandBackRow : OpenClaim := { program := "yteefceainlfdfaadoor", sum := "7dd989315192baccb275a40f9729769aca6d08aa6375a6e3459bd9f030707230", func := "rick/ricklaw25.CommandBack", spec := "commandBack", inPlace := ["internal/bytealg.CountString", "internal/bytealg.IndexByteString", "internal/bytealg.IndexString"], unfollowed := true, recurses := true, named := ["unicode/utf8.first", "unicode/utf8.acceptRanges", "internal/bytealg.MaxLen"], apart := false, laid := [("unicode/utf8.acceptRanges", laid_unicode_utf8_acceptRanges), ("unicode/utf8.first", laid_unicode_utf8_first)] }
def CommandBackSaid : Prop := commandBackRow.holds Tryd.pinned (OpenSpec.ofChange commandBackSpec)

/-- ITS FALSE NEIGHBOUR: 'it returns false'. Refute it at one input. -/
def commandBackWrong : ChangeSpec := { name := "commandBack", fn := fun _ => fun
  | [d1, d2, d3] => { results := [.lit (.bool false)], args := [d1, d2, d3] }
  | _ => none }
def CommandBackWrongFalsely : Prop := commandBackRow.holds Tryd.pinned (OpenSpec.ofChange commandBackWrong)

/-- 'ricklaw15.ObjectTakes': WHATEVER THE INPUT: true; the input reads as it did. -/
def objectTakesSpec : ChangeSpec := { name := "objectTakes", fn := fun _ => fun
  | [d] => { results := [.lit (.bool true)], args := [d] }
  | _ => none }
def objectTakesRow : OpenClaim := { program := "yteefceainlfdfaadoor", sum := "7dd989315192baccb275a40f9729769aca6d08aa6375a6e3459bd9f030707230", func := "rick/ricklaw15.ObjectTakes", spec := "objectTakes", inPlace := ["internal/bytealg.CountString", "internal/bytealg.IndexByteString", "internal/bytealg.IndexString"], unfollowed := true, recurses := true, named := ["unicode/utf8.first", "unicode/utf8.acceptRanges", "internal/bytealg.MaxLen"], apart := false, laid := [("unicode/utf8.acceptRanges", laid_unicode_utf8_acceptRanges), ("unicode/utf8.first", laid_unicode_utf8_first)] }
def ObjectTakesSaid : Prop := objectTakesRow.holds Tryd.pinned (OpenSpec.ofChange objectTakesSpec)

/-- ITS FALSE NEIGHBOUR: 'it returns false'. Refute it at one input. -/
def objectTakesWrong : ChangeSpec := { name := "objectTakes", fn := fun _ => fun
  | [d] => { results := [.lit (.bool false)], args := [d] }
  | _ => none }
def ObjectTakesWrongFalsely : Prop := objectTakesRow.holds Tryd.pinned (OpenSpec.ofChange objectTakesWrong)

/-- 'ricklaw15.ObjectBack': WHATEVER THE INPUT: true; the input reads as it did. -/
def objectBackSpec : ChangeSpec := { name := "objectBack", fn := fun _ => fun
  | [d1, d2, d3] => { results := [.lit (.bool true)], args := [d1, d2, d3] }
  | _ => none }
def objectBackRow : OpenClaim := { program := "yteefceainlfdfaadoor", sum := "7dd989315192baccb275a40f9729769aca6d08aa6375a6e3459bd9f030707230", func := "rick/ricklaw15.ObjectBack", spec := "objectBack", inPlace := ["internal/bytealg.CountString", "internal/bytealg.IndexByteString", "internal/bytealg.IndexString"], unfollowed := true, recurses := true, named := ["unicode/utf8.first", "unicode/utf8.acceptRanges", "internal/bytealg.MaxLen"], apart := false, laid := [("unicode/utf8.acceptRanges", laid_unicode_utf8_acceptRanges), ("unicode/utf8.first", laid_unicode_utf8_first)] }
def ObjectBackSaid : Prop := objectBackRow.holds Tryd.pinned (OpenSpec.ofChange objectBackSpec)

/-- ITS FALSE NEIGHBOUR: 'it returns false'. Refute it at one input. -/
def objectBackWrong : ChangeSpec := { name := "objectBack", fn := fun _ => fun
  | [d1, d2, d3] => { results := [.lit (.bool false)], args := [d1, d2, d3] }
  | _ => none }
def ObjectBackWrongFalsely : Prop := objectBackRow.holds Tryd.pinned (OpenSpec.ofChange objectBackWrong)

/- THE SECOND FORM. 'bulk': how many values and letters a reading holds, each counted each time it is reached (what is shared counts as often as it is met; a slice's spare places count too). A statement '..UptoSaid' is the law's where the arguments, and the package variables that the reading takes, are together of bulk at most 1048576: NARROWER than '..Said'. Prove '..Said' where nothing that the law and all that it calls make is longer than what came in: it says more and counts as full. Else prove '..UptoSaid'. A law counts once. -/
mutual
def uptoBulk {H : Type} : DataW H → Nat
  | .lit (.string bytes) => bytes.length + 1
  | .lit _ => 1
  | .nil => 1
  | .ptr d => uptoBulk d + 1
  | .slice elems spare => uptoBulkAll elems + uptoBulkAll spare + 1
  | .agg parts => uptoBulkAll parts + 1
  | .iface _ d => uptoBulk d + 1
  | .map entries => uptoBulkEntries entries + 1
  | .held _ => 1
def uptoBulkAll {H : Type} : List (DataW H) → Nat
  | [] => 0
  | d :: r => uptoBulk d + uptoBulkAll r
def uptoBulkEntries {H : Type} : List (Lit × DataW H) → Nat
  | [] => 0
  | x :: r => uptoBulkEntry x + uptoBulkEntries r
def uptoBulkEntry {H : Type} : Lit × DataW H → Nat
  | (.string bytes, d) => bytes.length + uptoBulk d + 1
  | (_, d) => uptoBulk d + 1
 end
def uptoSmall : (H : Type) → List (DataW H) → Bool := fun _ ds => decide (uptoBulkAll ds ≤ 1048576)
def OpenSpec.upto (s : _root_.Go.ChangeSpec) : _root_.Go.OpenSpec := { _root_.Go.OpenSpec.ofChange s with cond := some uptoSmall }

/-- 'ricklaw25.CommandBounds', WHERE WHAT IT READS IS OF BULK AT MOST 1048576: true; the input reads as it did. -/
def commandBoundsUptoRow : OpenClaim := { program := "yteefceainlfdfaadoor", sum := "7dd989315192baccb275a40f9729769aca6d08aa6375a6e3459bd9f030707230", func := "rick/ricklaw25.CommandBounds", spec := "commandBounds", inPlace := ["internal/bytealg.CountString", "internal/bytealg.IndexByteString", "internal/bytealg.IndexString"], unfollowed := true, recurses := true, named := ["unicode/utf8.first", "unicode/utf8.acceptRanges", "internal/bytealg.MaxLen"], apart := false, laid := [("unicode/utf8.acceptRanges", laid_unicode_utf8_acceptRanges), ("unicode/utf8.first", laid_unicode_utf8_first)], narrowed := true }
def CommandBoundsUptoSaid : Prop := commandBoundsUptoRow.holds Tryd.pinned (OpenSpec.upto commandBoundsSpec)

/-- 'ricklaw25.CommandWrong', WHERE WHAT IT READS IS OF BULK AT MOST 1048576: true; the input reads as it did. -/
def commandWrongUptoRow : OpenClaim := { program := "yteefceainlfdfaadoor", sum := "7dd989315192baccb275a40f9729769aca6d08aa6375a6e3459bd9f030707230", func := "rick/ricklaw25.CommandWrong", spec := "commandWrong", inPlace := ["internal/bytealg.CountString", "internal/bytealg.IndexByteString", "internal/bytealg.IndexString"], unfollowed := true, recurses := true, named := ["unicode/utf8.first", "unicode/utf8.acceptRanges", "internal/bytealg.MaxLen"], apart := false, laid := [("unicode/utf8.acceptRanges", laid_unicode_utf8_acceptRanges), ("unicode/utf8.first", laid_unicode_utf8_first)], narrowed := true }
def CommandWrongUptoSaid : Prop := commandWrongUptoRow.holds Tryd.pinned (OpenSpec.upto commandWrongSpec)

/-- 'ricklaw15.ObjectWrites', WHERE WHAT IT READS IS OF BULK AT MOST 1048576: true; the input reads as it did. -/
def objectWritesUptoRow : OpenClaim := { program := "yteefceainlfdfaadoor", sum := "7dd989315192baccb275a40f9729769aca6d08aa6375a6e3459bd9f030707230", func := "rick/ricklaw15.ObjectWrites", spec := "objectWrites", inPlace := ["internal/bytealg.CountString", "internal/bytealg.IndexByteString", "internal/bytealg.IndexString"], unfollowed := true, recurses := true, named := ["unicode/utf8.first", "unicode/utf8.acceptRanges", "internal/bytealg.MaxLen"], apart := false, laid := [("unicode/utf8.acceptRanges", laid_unicode_utf8_acceptRanges), ("unicode/utf8.first", laid_unicode_utf8_first)], narrowed := true }
def ObjectWritesUptoSaid : Prop := objectWritesUptoRow.holds Tryd.pinned (OpenSpec.upto objectWritesSpec)

/-- 'ricklaw15.ObjectBounds', WHERE WHAT IT READS IS OF BULK AT MOST 1048576: true; the input reads as it did. -/
def objectBoundsUptoRow : OpenClaim := { program := "yteefceainlfdfaadoor", sum := "7dd989315192baccb275a40f9729769aca6d08aa6375a6e3459bd9f030707230", func := "rick/ricklaw15.ObjectBounds", spec := "objectBounds", inPlace := ["internal/bytealg.CountString", "internal/bytealg.IndexByteString", "internal/bytealg.IndexString"], unfollowed := true, recurses := true, named := ["unicode/utf8.first", "unicode/utf8.acceptRanges", "internal/bytealg.MaxLen"], apart := false, laid := [("unicode/utf8.acceptRanges", laid_unicode_utf8_acceptRanges), ("unicode/utf8.first", laid_unicode_utf8_first)], narrowed := true }
def ObjectBoundsUptoSaid : Prop := objectBoundsUptoRow.holds Tryd.pinned (OpenSpec.upto objectBoundsSpec)

/-- 'ricklaw25.CommandTells', WHERE WHAT IT READS IS OF BULK AT MOST 1048576: true; the input reads as it did. -/
def commandTellsUptoRow : OpenClaim := { program := "yteefceainlfdfaadoor", sum := "7dd989315192baccb275a40f9729769aca6d08aa6375a6e3459bd9f030707230", func := "rick/ricklaw25.CommandTells", spec := "commandTells", inPlace := ["internal/bytealg.CountString", "internal/bytealg.IndexByteString", "internal/bytealg.IndexString"], unfollowed := true, recurses := true, named := ["unicode/utf8.first", "unicode/utf8.acceptRanges", "internal/bytealg.MaxLen"], apart := false, laid := [("unicode/utf8.acceptRanges", laid_unicode_utf8_acceptRanges), ("unicode/utf8.first", laid_unicode_utf8_first)], narrowed := true }
def CommandTellsUptoSaid : Prop := commandTellsUptoRow.holds Tryd.pinned (OpenSpec.upto commandTellsSpec)

/-- 'ricklaw25.CommandBack', WHERE WHAT IT READS IS OF BULK AT MOST 1048576: true; the input reads as it did. -/
def commandBackUptoRow : OpenClaim := { program := "yteefceainlfdfaadoor", sum := "7dd989315192baccb275a40f9729769aca6d08aa6375a6e3459bd9f030707230", func := "rick/ricklaw25.CommandBack", spec := "commandBack", inPlace := ["internal/bytealg.CountString", "internal/bytealg.IndexByteString", "internal/bytealg.IndexString"], unfollowed := true, recurses := true, named := ["unicode/utf8.first", "unicode/utf8.acceptRanges", "internal/bytealg.MaxLen"], apart := false, laid := [("unicode/utf8.acceptRanges", laid_unicode_utf8_acceptRanges), ("unicode/utf8.first", laid_unicode_utf8_first)], narrowed := true }
def CommandBackUptoSaid : Prop := commandBackUptoRow.holds Tryd.pinned (OpenSpec.upto commandBackSpec)

/-- 'ricklaw15.ObjectTakes', WHERE WHAT IT READS IS OF BULK AT MOST 1048576: true; the input reads as it did. -/
def objectTakesUptoRow : OpenClaim := { program := "yteefceainlfdfaadoor", sum := "7dd989315192baccb275a40f9729769aca6d08aa6375a6e3459bd9f030707230", func := "rick/ricklaw15.ObjectTakes", spec := "objectTakes", inPlace := ["internal/bytealg.CountString", "internal/bytealg.IndexByteString", "internal/bytealg.IndexString"], unfollowed := true, recurses := true, named := ["unicode/utf8.first", "unicode/utf8.acceptRanges", "internal/bytealg.MaxLen"], apart := false, laid := [("unicode/utf8.acceptRanges", laid_unicode_utf8_acceptRanges), ("unicode/utf8.first", laid_unicode_utf8_first)], narrowed := true }
def ObjectTakesUptoSaid : Prop := objectTakesUptoRow.holds Tryd.pinned (OpenSpec.upto objectTakesSpec)

/-- 'ricklaw15.ObjectBack', WHERE WHAT IT READS IS OF BULK AT MOST 1048576: true; the input reads as it did. -/
def objectBackUptoRow : OpenClaim := { program := "yteefceainlfdfaadoor", sum := "7dd989315192baccb275a40f9729769aca6d08aa6375a6e3459bd9f030707230", func := "rick/ricklaw15.ObjectBack", spec := "objectBack", inPlace := ["internal/bytealg.CountString", "internal/bytealg.IndexByteString", "internal/bytealg.IndexString"], unfollowed := true, recurses := true, named := ["unicode/utf8.first", "unicode/utf8.acceptRanges", "internal/bytealg.MaxLen"], apart := false, laid := [("unicode/utf8.acceptRanges", laid_unicode_utf8_acceptRanges), ("unicode/utf8.first", laid_unicode_utf8_first)], narrowed := true }
def ObjectBackUptoSaid : Prop := objectBackUptoRow.holds Tryd.pinned (OpenSpec.upto objectBackSpec)

end Rows
end Go.Proofs.YteefceainlfdfaaDoor
