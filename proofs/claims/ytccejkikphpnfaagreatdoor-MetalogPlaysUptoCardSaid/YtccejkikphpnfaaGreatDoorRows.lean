/-
  NARROWER THAN 'FOR EVERY INPUT', by the rows' own cells (each row's printed sentence says how): MetalogTells: laid · MetalogWaits: laid · MetalogUndo: laid · MetalogForks: laid · MetalogPlays: laid · MetalogNil: laid.
  DERIVED. THE GIVEN ROWS OF THIS SEAT. 6 by the template 'for every input the law returns true; each argument reads behind the call as it read before'; 0 by the template 'total and deterministic' (their statements: YtccejkikphpnfaaGreatDoorTotals.lean).
  GIVEN WITH THE SEED: the statements are not yours to turn. If you find one false, say at which input.
  Laid BY PROGRAM, IN A SANDBOX (cutbox-rows.mjs): the forced cells as the released guide's own fill.sh prints them over the translation ae60860ea9ffec52… (all of the seat's roots in one cut). By AI agents, Wed Nov 11 2026. No macro, syntax, notation, axiom, sorry.
-/
import Derived.Test.YtccejkikphpnfaaGreatDoorChecked
import GoSem.PinnedTables
import GoSem.Claim
import GoSem.ClaimJoined
import GoSem.ClaimMapViews
import Derived.JoinedTies
import Derived.KernelRfl
namespace Go.Proofs.YtccejkikphpnfaaGreatDoor
/- THE CELL 'sum', in the pinned program and in every row, IS THE sha256 OF THE DUMP (.gsa) THAT YtccejkikphpnfaaGreatDoorProg.lean LOADS. Nothing in Lean hashes anything: it is a label: what it is worth is what the hold of that sum in a sandbox is worth. -/
noncomputable def Tryz.pinned : Pinned := { name := "ytccejkikphpnfaagreatdoor", sum := "ae60860ea9ffec52af15209bfb47a386efc6d4bfa73838bf33c32155697abf84", checked := Tryz.checked }
namespace Rows
def none {H : Type} : Left H := { results := [], args := [] }

/- WHAT THE LISTED PACKAGE-LEVEL VARIABLES READ AS WHEN THE CALL BEGINS. Each datum BY PROGRAM (the guide's laid-datum.mjs) off the statement by which the dump's own 'gosem.cut.vars' lays the variable. In a bare row this is a premise. The card (YtccejkikphpnfaaGreatDoorCards.lean) ties it to the program's text. -/
def laid_unicode_utf8_acceptRanges {H : Type} : DataW H := .agg [.agg [.lit (.int .u8 128), .lit (.int .u8 191)], .agg [.lit (.int .u8 160), .lit (.int .u8 191)], .agg [.lit (.int .u8 128), .lit (.int .u8 159)], .agg [.lit (.int .u8 144), .lit (.int .u8 191)], .agg [.lit (.int .u8 128), .lit (.int .u8 143)], .agg [.lit (.int .u8 0), .lit (.int .u8 0)], .agg [.lit (.int .u8 0), .lit (.int .u8 0)], .agg [.lit (.int .u8 0), .lit (.int .u8 0)], .agg [.lit (.int .u8 0), .lit (.int .u8 0)], .agg [.lit (.int .u8 0), .lit (.int .u8 0)], .agg [.lit (.int .u8 0), .lit (.int .u8 0)], .agg [.lit (.int .u8 0), .lit (.int .u8 0)], .agg [.lit (.int .u8 0), .lit (.int .u8 0)], .agg [.lit (.int .u8 0), .lit (.int .u8 0)], .agg [.lit (.int .u8 0), .lit (.int .u8 0)], .agg [.lit (.int .u8 0), .lit (.int .u8 0)]]
/-- One of Go's own tables, pinned by name: the form's constant. -/
def laid_unicode_utf8_first : DataW Unit := Go.Pinned.utf8First

/-- 'ricklaw21.MetalogTells': WHATEVER THE INPUT: true; the input reads as it did. -/
def metalogTellsSpec : ChangeSpec := { name := "metalogTells", fn := fun _ => fun
  | [d1, d2, d3, d4] => { results := [.lit (.bool true)], args := [d1, d2, d3, d4] }
  | _ => none }
def metalogTellsRow : OpenClaim := { program := "ytccejkikphpnfaagreatdoor", sum := "ae60860ea9ffec52af15209bfb47a386efc6d4bfa73838bf33c32155697abf84", func := "rick/ricklaw21.MetalogTells", spec := "metalogTells", inPlace := ["internal/bytealg.CountString", "internal/bytealg.IndexByteString", "internal/bytealg.IndexString"], unfollowed := true, recurses := true, named := ["unicode/utf8.first", "unicode/utf8.acceptRanges", "internal/bytealg.MaxLen"], plainKeys := false, apart := false, laid := [("unicode/utf8.acceptRanges", laid_unicode_utf8_acceptRanges), ("unicode/utf8.first", laid_unicode_utf8_first)] }
def MetalogTellsSaid : Prop := metalogTellsRow.holds Tryz.pinned (OpenSpec.ofChange metalogTellsSpec)

/-- ITS FALSE NEIGHBOUR: 'it returns false'. Refute it at one input. -/
def metalogTellsWrong : ChangeSpec := { name := "metalogTells", fn := fun _ => fun
  | [d1, d2, d3, d4] => { results := [.lit (.bool false)], args := [d1, d2, d3, d4] }
  | _ => none }
def MetalogTellsWrongFalsely : Prop := metalogTellsRow.holds Tryz.pinned (OpenSpec.ofChange metalogTellsWrong)

/-- 'ricklaw21.MetalogWaits': WHATEVER THE INPUT: true; the input reads as it did. -/
def metalogWaitsSpec : ChangeSpec := { name := "metalogWaits", fn := fun _ => fun
  | [d1, d2] => { results := [.lit (.bool true)], args := [d1, d2] }
  | _ => none }
def metalogWaitsRow : OpenClaim := { program := "ytccejkikphpnfaagreatdoor", sum := "ae60860ea9ffec52af15209bfb47a386efc6d4bfa73838bf33c32155697abf84", func := "rick/ricklaw21.MetalogWaits", spec := "metalogWaits", inPlace := ["internal/bytealg.CountString", "internal/bytealg.IndexByteString", "internal/bytealg.IndexString"], unfollowed := true, recurses := true, named := ["unicode/utf8.first", "unicode/utf8.acceptRanges", "internal/bytealg.MaxLen"], plainKeys := false, apart := false, laid := [("unicode/utf8.acceptRanges", laid_unicode_utf8_acceptRanges), ("unicode/utf8.first", laid_unicode_utf8_first)] }
def MetalogWaitsSaid : Prop := metalogWaitsRow.holds Tryz.pinned (OpenSpec.ofChange metalogWaitsSpec)

/-- ITS FALSE NEIGHBOUR: 'it returns false'. Refute it at one input. -/
def metalogWaitsWrong : ChangeSpec := { name := "metalogWaits", fn := fun _ => fun
  | [d1, d2] => { results := [.lit (.bool false)], args := [d1, d2] }
  | _ => none }
def MetalogWaitsWrongFalsely : Prop := metalogWaitsRow.holds Tryz.pinned (OpenSpec.ofChange metalogWaitsWrong)

/-- 'ricklaw21.MetalogUndo': WHATEVER THE INPUT: true; the input reads as it did. -/
def metalogUndoSpec : ChangeSpec := { name := "metalogUndo", fn := fun _ => fun
  | [d1, d2, d3] => { results := [.lit (.bool true)], args := [d1, d2, d3] }
  | _ => none }
def metalogUndoRow : OpenClaim := { program := "ytccejkikphpnfaagreatdoor", sum := "ae60860ea9ffec52af15209bfb47a386efc6d4bfa73838bf33c32155697abf84", func := "rick/ricklaw21.MetalogUndo", spec := "metalogUndo", inPlace := ["internal/bytealg.CountString", "internal/bytealg.IndexByteString", "internal/bytealg.IndexString"], unfollowed := true, recurses := true, named := ["unicode/utf8.first", "unicode/utf8.acceptRanges", "internal/bytealg.MaxLen"], plainKeys := false, apart := false, laid := [("unicode/utf8.acceptRanges", laid_unicode_utf8_acceptRanges), ("unicode/utf8.first", laid_unicode_utf8_first)] }
def MetalogUndoSaid : Prop := metalogUndoRow.holds Tryz.pinned (OpenSpec.ofChange metalogUndoSpec)

/-- ITS FALSE NEIGHBOUR: 'it returns false'. Refute it at one input. -/
def metalogUndoWrong : ChangeSpec := { name := "metalogUndo", fn := fun _ => fun
  | [d1, d2, d3] => { results := [.lit (.bool false)], args := [d1, d2, d3] }
  | _ => none }
def MetalogUndoWrongFalsely : Prop := metalogUndoRow.holds Tryz.pinned (OpenSpec.ofChange metalogUndoWrong)

/-- 'ricklaw21.MetalogForks': WHATEVER THE INPUT: true; the input reads as it did. -/
def metalogForksSpec : ChangeSpec := { name := "metalogForks", fn := fun _ => fun
  | [d1, d2] => { results := [.lit (.bool true)], args := [d1, d2] }
  | _ => none }
def metalogForksRow : OpenClaim := { program := "ytccejkikphpnfaagreatdoor", sum := "ae60860ea9ffec52af15209bfb47a386efc6d4bfa73838bf33c32155697abf84", func := "rick/ricklaw21.MetalogForks", spec := "metalogForks", inPlace := ["internal/bytealg.CountString", "internal/bytealg.IndexByteString", "internal/bytealg.IndexString"], unfollowed := true, recurses := true, named := ["unicode/utf8.first", "unicode/utf8.acceptRanges", "internal/bytealg.MaxLen"], plainKeys := false, apart := false, laid := [("unicode/utf8.acceptRanges", laid_unicode_utf8_acceptRanges), ("unicode/utf8.first", laid_unicode_utf8_first)] }
def MetalogForksSaid : Prop := metalogForksRow.holds Tryz.pinned (OpenSpec.ofChange metalogForksSpec)

/-- ITS FALSE NEIGHBOUR: 'it returns false'. Refute it at one input. -/
def metalogForksWrong : ChangeSpec := { name := "metalogForks", fn := fun _ => fun
  | [d1, d2] => { results := [.lit (.bool false)], args := [d1, d2] }
  | _ => none }
def MetalogForksWrongFalsely : Prop := metalogForksRow.holds Tryz.pinned (OpenSpec.ofChange metalogForksWrong)

/-- 'ricklaw21.MetalogPlays': WHATEVER THE INPUT: true; the input reads as it did. -/
def metalogPlaysSpec : ChangeSpec := { name := "metalogPlays", fn := fun _ => fun
  | [d] => { results := [.lit (.bool true)], args := [d] }
  | _ => none }
def metalogPlaysRow : OpenClaim := { program := "ytccejkikphpnfaagreatdoor", sum := "ae60860ea9ffec52af15209bfb47a386efc6d4bfa73838bf33c32155697abf84", func := "rick/ricklaw21.MetalogPlays", spec := "metalogPlays", inPlace := ["internal/bytealg.CountString", "internal/bytealg.IndexByteString", "internal/bytealg.IndexString"], unfollowed := true, recurses := true, named := ["unicode/utf8.first", "unicode/utf8.acceptRanges", "internal/bytealg.MaxLen"], plainKeys := false, apart := false, laid := [("unicode/utf8.acceptRanges", laid_unicode_utf8_acceptRanges), ("unicode/utf8.first", laid_unicode_utf8_first)] }
def MetalogPlaysSaid : Prop := metalogPlaysRow.holds Tryz.pinned (OpenSpec.ofChange metalogPlaysSpec)

/-- ITS FALSE NEIGHBOUR: 'it returns false'. Refute it at one input. -/
def metalogPlaysWrong : ChangeSpec := { name := "metalogPlays", fn := fun _ => fun
  | [d] => { results := [.lit (.bool false)], args := [d] }
  | _ => none }
def MetalogPlaysWrongFalsely : Prop := metalogPlaysRow.holds Tryz.pinned (OpenSpec.ofChange metalogPlaysWrong)

/-- 'ricklaw21.MetalogNil': WHATEVER THE INPUT: true; the input reads as it did. -/
def metalogNilSpec : ChangeSpec := { name := "metalogNil", fn := fun _ => fun
  | [d1, d2] => { results := [.lit (.bool true)], args := [d1, d2] }
  | _ => none }
def metalogNilRow : OpenClaim := { program := "ytccejkikphpnfaagreatdoor", sum := "ae60860ea9ffec52af15209bfb47a386efc6d4bfa73838bf33c32155697abf84", func := "rick/ricklaw21.MetalogNil", spec := "metalogNil", inPlace := ["internal/bytealg.CountString", "internal/bytealg.IndexByteString", "internal/bytealg.IndexString"], unfollowed := true, recurses := true, named := ["unicode/utf8.first", "unicode/utf8.acceptRanges", "internal/bytealg.MaxLen"], plainKeys := false, apart := false, laid := [("unicode/utf8.acceptRanges", laid_unicode_utf8_acceptRanges), ("unicode/utf8.first", laid_unicode_utf8_first)] }
def MetalogNilSaid : Prop := metalogNilRow.holds Tryz.pinned (OpenSpec.ofChange metalogNilSpec)

/-- ITS FALSE NEIGHBOUR: 'it returns false'. Refute it at one input. -/
def metalogNilWrong : ChangeSpec := { name := "metalogNil", fn := fun _ => fun
  | [d1, d2] => { results := [.lit (.bool false)], args := [d1, d2] }
  | _ => none }
def MetalogNilWrongFalsely : Prop := metalogNilRow.holds Tryz.pinned (OpenSpec.ofChange metalogNilWrong)

/- THE SECOND FORM. 'bulk': how many values and letters a reading holds, each counted each time it is reached (what is shared counts as often as it is met; a slice's spare places count too). A statement '..UptoSaid' is the law's where the arguments, and the package variables that the reading takes, are together of bulk at most 1048576: NARROWER than '..Said'. Prove '..Said' where nothing that the law and all that it calls make is longer than what came in: it says more and counts as full. Else prove '..UptoSaid'. A law counts once. -/
mutual
def uptoBulk {H : Type} : DataW H → Nat
  | .lit (.string bytes) => bytes.length + 1
  | .lit _ => 1
  | .nil => 1
  | .ptr d => uptoBulk d + 1
  | .slice elems spare => uptoBulkAll elems + uptoBulkAll spare + 1
  | .agg parts => uptoBulkAll parts + 1
  | .iface _ d => uptoBulk d + 1
  | .map entries => uptoBulkEntries entries + 1
  | .held _ => 1
def uptoBulkAll {H : Type} : List (DataW H) → Nat
  | [] => 0
  | d :: r => uptoBulk d + uptoBulkAll r
def uptoBulkEntries {H : Type} : List (Lit × DataW H) → Nat
  | [] => 0
  | x :: r => uptoBulkEntry x + uptoBulkEntries r
def uptoBulkEntry {H : Type} : Lit × DataW H → Nat
  | (.string bytes, d) => bytes.length + uptoBulk d + 1
  | (_, d) => uptoBulk d + 1
 end
def uptoSmall : (H : Type) → List (DataW H) → Bool := fun _ ds => decide (uptoBulkAll ds ≤ 1048576)
def OpenSpec.upto (s : _root_.Go.ChangeSpec) : _root_.Go.OpenSpec := { _root_.Go.OpenSpec.ofChange s with cond := some uptoSmall }

/-- 'ricklaw21.MetalogTells', WHERE WHAT IT READS IS OF BULK AT MOST 1048576: true; the input reads as it did. -/
def metalogTellsUptoRow : OpenClaim := { program := "ytccejkikphpnfaagreatdoor", sum := "ae60860ea9ffec52af15209bfb47a386efc6d4bfa73838bf33c32155697abf84", func := "rick/ricklaw21.MetalogTells", spec := "metalogTells", inPlace := ["internal/bytealg.CountString", "internal/bytealg.IndexByteString", "internal/bytealg.IndexString"], unfollowed := true, recurses := true, named := ["unicode/utf8.first", "unicode/utf8.acceptRanges", "internal/bytealg.MaxLen"], plainKeys := false, apart := false, laid := [("unicode/utf8.acceptRanges", laid_unicode_utf8_acceptRanges), ("unicode/utf8.first", laid_unicode_utf8_first)], narrowed := true }
def MetalogTellsUptoSaid : Prop := metalogTellsUptoRow.holds Tryz.pinned (OpenSpec.upto metalogTellsSpec)

/-- 'ricklaw21.MetalogWaits', WHERE WHAT IT READS IS OF BULK AT MOST 1048576: true; the input reads as it did. -/
def metalogWaitsUptoRow : OpenClaim := { program := "ytccejkikphpnfaagreatdoor", sum := "ae60860ea9ffec52af15209bfb47a386efc6d4bfa73838bf33c32155697abf84", func := "rick/ricklaw21.MetalogWaits", spec := "metalogWaits", inPlace := ["internal/bytealg.CountString", "internal/bytealg.IndexByteString", "internal/bytealg.IndexString"], unfollowed := true, recurses := true, named := ["unicode/utf8.first", "unicode/utf8.acceptRanges", "internal/bytealg.MaxLen"], plainKeys := false, apart := false, laid := [("unicode/utf8.acceptRanges", laid_unicode_utf8_acceptRanges), ("unicode/utf8.first", laid_unicode_utf8_first)], narrowed := true }
def MetalogWaitsUptoSaid : Prop := metalogWaitsUptoRow.holds Tryz.pinned (OpenSpec.upto metalogWaitsSpec)

/-- 'ricklaw21.MetalogUndo', WHERE WHAT IT READS IS OF BULK AT MOST 1048576: true; the input reads as it did. -/
def metalogUndoUptoRow : OpenClaim := { program := "ytccejkikphpnfaagreatdoor", sum := "ae60860ea9ffec52af15209bfb47a386efc6d4bfa73838bf33c32155697abf84", func := "rick/ricklaw21.MetalogUndo", spec := "metalogUndo", inPlace := ["internal/bytealg.CountString", "internal/bytealg.IndexByteString", "internal/bytealg.IndexString"], unfollowed := true, recurses := true, named := ["unicode/utf8.first", "unicode/utf8.acceptRanges", "internal/bytealg.MaxLen"], plainKeys := false, apart := false, laid := [("unicode/utf8.acceptRanges", laid_unicode_utf8_acceptRanges), ("unicode/utf8.first", laid_unicode_utf8_first)], narrowed := true }
def MetalogUndoUptoSaid : Prop := metalogUndoUptoRow.holds Tryz.pinned (OpenSpec.upto metalogUndoSpec)

/-- 'ricklaw21.MetalogForks', WHERE WHAT IT READS IS OF BULK AT MOST 1048576: true; the input reads as it did. -/
def metalogForksUptoRow : OpenClaim := { program := "ytccejkikphpnfaagreatdoor", sum := "ae60860ea9ffec52af15209bfb47a386efc6d4bfa73838bf33c32155697abf84", func := "rick/ricklaw21.MetalogForks", spec := "metalogForks", inPlace := ["internal/bytealg.CountString", "internal/bytealg.IndexByteString", "internal/bytealg.IndexString"], unfollowed := true, recurses := true, named := ["unicode/utf8.first", "unicode/utf8.acceptRanges", "internal/bytealg.MaxLen"], plainKeys := false, apart := false, laid := [("unicode/utf8.acceptRanges", laid_unicode_utf8_acceptRanges), ("unicode/utf8.first", laid_unicode_utf8_first)], narrowed := true }
def MetalogForksUptoSaid : Prop := metalogForksUptoRow.holds Tryz.pinned (OpenSpec.upto metalogForksSpec)

/-- 'ricklaw21.MetalogPlays', WHERE WHAT IT READS IS OF BULK AT MOST 1048576: true; the input reads as it did. -/
def metalogPlaysUptoRow : OpenClaim := { program := "ytccejkikphpnfaagreatdoor", sum := "ae60860ea9ffec52af15209bfb47a386efc6d4bfa73838bf33c32155697abf84", func := "rick/ricklaw21.MetalogPlays", spec := "metalogPlays", inPlace := ["internal/bytealg.CountString", "internal/bytealg.IndexByteString", "internal/bytealg.IndexString"], unfollowed := true, recurses := true, named := ["unicode/utf8.first", "unicode/utf8.acceptRanges", "internal/bytealg.MaxLen"], plainKeys := false, apart := false, laid := [("unicode/utf8.acceptRanges", laid_unicode_utf8_acceptRanges), ("unicode/utf8.first", laid_unicode_utf8_first)], narrowed := true }
def MetalogPlaysUptoSaid : Prop := metalogPlaysUptoRow.holds Tryz.pinned (OpenSpec.upto metalogPlaysSpec)

/-- 'ricklaw21.MetalogNil', WHERE WHAT IT READS IS OF BULK AT MOST 1048576: true; the input reads as it did. -/
def metalogNilUptoRow : OpenClaim := { program := "ytccejkikphpnfaagreatdoor", sum := "ae60860ea9ffec52af15209bfb47a386efc6d4bfa73838bf33c32155697abf84", func := "rick/ricklaw21.MetalogNil", spec := "metalogNil", inPlace := ["internal/bytealg.CountString", "internal/bytealg.IndexByteString", "internal/bytealg.IndexString"], unfollowed := true, recurses := true, named := ["unicode/utf8.first", "unicode/utf8.acceptRanges", "internal/bytealg.MaxLen"], plainKeys := false, apart := false, laid := [("unicode/utf8.acceptRanges", laid_unicode_utf8_acceptRanges), ("unicode/utf8.first", laid_unicode_utf8_first)], narrowed := true }
def MetalogNilUptoSaid : Prop := metalogNilUptoRow.holds Tryz.pinned (OpenSpec.upto metalogNilSpec)

end Rows
end Go.Proofs.YtccejkikphpnfaaGreatDoor
