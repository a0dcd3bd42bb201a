/-
  No cell of these rows narrows 'for every input' (looked for: loops, veiled, ifaces, maps, wideKeys, modest, calm, conditions, laid).
  DERIVED. THE GIVEN ROWS OF THIS SEAT. 9 by the template 'for every input the law returns true; each argument reads behind the call as it read before'; 0 by the template 'total and deterministic' (their statements: YtafkcmgfkecljaaTotals.lean).
  GIVEN WITH THE SEED: the statements are not yours to turn. If you find one false, say at which input.
  Laid BY PROGRAM, IN A SANDBOX (cutbox-rows.mjs): the forced cells as the released guide's own fill.sh prints them over the translation 7c1d3e4af9951a21… (all of the seat's roots in one cut). By AI agents, Wed Nov 11 2026. No macro, syntax, notation, axiom, sorry.
-/
import Derived.Test.YtafkcmgfkecljaaChecked
import GoSem.Claim
import GoSem.ClaimJoined
import GoSem.ClaimMapViews
import Derived.JoinedTies
import Derived.KernelRfl
namespace Go.Proofs.Ytafkcmgfkecljaa
/- THE CELL 'sum', in the pinned program and in every row, IS THE sha256 OF THE DUMP (.gsa) THAT YtafkcmgfkecljaaProg.lean LOADS. Nothing in Lean hashes anything: it is a label: what it is worth is what the hold of that sum in a sandbox is worth. -/
noncomputable def Try.pinned : Pinned := { name := "ytafkcmgfkecljaa", sum := "7c1d3e4af9951a21e42b152e71b4bdfd36cc5d5019d2aa19778ec0f707face93", checked := Try.checked }
namespace Rows
def none {H : Type} : Left H := { results := [], args := [] }

/-- 'ricklaw01.OctetsLow': WHATEVER THE INPUT: true; the input reads as it did. -/
def octetsLowSpec : ChangeSpec := { name := "octetsLow", fn := fun _ => fun
  | [d1, d2] => { results := [.lit (.bool true)], args := [d1, d2] }
  | _ => none }
def octetsLowRow : OpenClaim := { program := "ytafkcmgfkecljaa", sum := "7c1d3e4af9951a21e42b152e71b4bdfd36cc5d5019d2aa19778ec0f707face93", func := "rick/ricklaw01.OctetsLow", spec := "octetsLow", apart := false }
def OctetsLowSaid : Prop := octetsLowRow.holds Try.pinned (OpenSpec.ofChange octetsLowSpec)

/-- ITS FALSE NEIGHBOUR: 'it returns false'. Refute it at one input. -/
def octetsLowWrong : ChangeSpec := { name := "octetsLow", fn := fun _ => fun
  | [d1, d2] => { results := [.lit (.bool false)], args := [d1, d2] }
  | _ => none }
def OctetsLowWrongFalsely : Prop := octetsLowRow.holds Try.pinned (OpenSpec.ofChange octetsLowWrong)

/-- 'ricklaw02.DigestLong': WHATEVER THE INPUT: true; the input reads as it did. -/
def digestLongSpec : ChangeSpec := { name := "digestLong", fn := fun _ => fun
  | [d1, d2] => { results := [.lit (.bool true)], args := [d1, d2] }
  | _ => none }
def digestLongRow : OpenClaim := { program := "ytafkcmgfkecljaa", sum := "7c1d3e4af9951a21e42b152e71b4bdfd36cc5d5019d2aa19778ec0f707face93", func := "rick/ricklaw02.DigestLong", spec := "digestLong", apart := false }
def DigestLongSaid : Prop := digestLongRow.holds Try.pinned (OpenSpec.ofChange digestLongSpec)

/-- ITS FALSE NEIGHBOUR: 'it returns false'. Refute it at one input. -/
def digestLongWrong : ChangeSpec := { name := "digestLong", fn := fun _ => fun
  | [d1, d2] => { results := [.lit (.bool false)], args := [d1, d2] }
  | _ => none }
def DigestLongWrongFalsely : Prop := digestLongRow.holds Try.pinned (OpenSpec.ofChange digestLongWrong)

/-- 'ricklaw02.DigestTells': WHATEVER THE INPUT: true; the input reads as it did. -/
def digestTellsSpec : ChangeSpec := { name := "digestTells", fn := fun _ => fun
  | [d1, d2, d3] => { results := [.lit (.bool true)], args := [d1, d2, d3] }
  | _ => none }
def digestTellsRow : OpenClaim := { program := "ytafkcmgfkecljaa", sum := "7c1d3e4af9951a21e42b152e71b4bdfd36cc5d5019d2aa19778ec0f707face93", func := "rick/ricklaw02.DigestTells", spec := "digestTells", inPlace := ["internal/bytealg.Compare"], unfollowed := true, recurses := true, apart := false }
def DigestTellsSaid : Prop := digestTellsRow.holds Try.pinned (OpenSpec.ofChange digestTellsSpec)

/-- ITS FALSE NEIGHBOUR: 'it returns false'. Refute it at one input. -/
def digestTellsWrong : ChangeSpec := { name := "digestTells", fn := fun _ => fun
  | [d1, d2, d3] => { results := [.lit (.bool false)], args := [d1, d2, d3] }
  | _ => none }
def DigestTellsWrongFalsely : Prop := digestTellsRow.holds Try.pinned (OpenSpec.ofChange digestTellsWrong)

/-- 'ricklaw02.DigestOrder': WHATEVER THE INPUT: true; the input reads as it did. -/
def digestOrderSpec : ChangeSpec := { name := "digestOrder", fn := fun _ => fun
  | [d1, d2] => { results := [.lit (.bool true)], args := [d1, d2] }
  | _ => none }
def digestOrderRow : OpenClaim := { program := "ytafkcmgfkecljaa", sum := "7c1d3e4af9951a21e42b152e71b4bdfd36cc5d5019d2aa19778ec0f707face93", func := "rick/ricklaw02.DigestOrder", spec := "digestOrder", inPlace := ["internal/bytealg.Compare"], apart := false }
def DigestOrderSaid : Prop := digestOrderRow.holds Try.pinned (OpenSpec.ofChange digestOrderSpec)

/-- ITS FALSE NEIGHBOUR: 'it returns false'. Refute it at one input. -/
def digestOrderWrong : ChangeSpec := { name := "digestOrder", fn := fun _ => fun
  | [d1, d2] => { results := [.lit (.bool false)], args := [d1, d2] }
  | _ => none }
def DigestOrderWrongFalsely : Prop := digestOrderRow.holds Try.pinned (OpenSpec.ofChange digestOrderWrong)

/-- 'ricklaw01.OctetsRead': WHATEVER THE INPUT: true; the input reads as it did. -/
def octetsReadSpec : ChangeSpec := { name := "octetsRead", fn := fun _ => fun
  | [d1, d2] => { results := [.lit (.bool true)], args := [d1, d2] }
  | _ => none }
def octetsReadRow : OpenClaim := { program := "ytafkcmgfkecljaa", sum := "7c1d3e4af9951a21e42b152e71b4bdfd36cc5d5019d2aa19778ec0f707face93", func := "rick/ricklaw01.OctetsRead", spec := "octetsRead", unfollowed := true, recurses := true, apart := false }
def OctetsReadSaid : Prop := octetsReadRow.holds Try.pinned (OpenSpec.ofChange octetsReadSpec)

/-- ITS FALSE NEIGHBOUR: 'it returns false'. Refute it at one input. -/
def octetsReadWrong : ChangeSpec := { name := "octetsRead", fn := fun _ => fun
  | [d1, d2] => { results := [.lit (.bool false)], args := [d1, d2] }
  | _ => none }
def OctetsReadWrongFalsely : Prop := octetsReadRow.holds Try.pinned (OpenSpec.ofChange octetsReadWrong)

/-- 'ricklaw02.DigestHex': WHATEVER THE INPUT: true; the input reads as it did. -/
def digestHexSpec : ChangeSpec := { name := "digestHex", fn := fun _ => fun
  | [d1, d2, d3, d4] => { results := [.lit (.bool true)], args := [d1, d2, d3, d4] }
  | _ => none }
def digestHexRow : OpenClaim := { program := "ytafkcmgfkecljaa", sum := "7c1d3e4af9951a21e42b152e71b4bdfd36cc5d5019d2aa19778ec0f707face93", func := "rick/ricklaw02.DigestHex", spec := "digestHex", inPlace := ["internal/bytealg.IndexByte"], apart := false }
def DigestHexSaid : Prop := digestHexRow.holds Try.pinned (OpenSpec.ofChange digestHexSpec)

/-- ITS FALSE NEIGHBOUR: 'it returns false'. Refute it at one input. -/
def digestHexWrong : ChangeSpec := { name := "digestHex", fn := fun _ => fun
  | [d1, d2, d3, d4] => { results := [.lit (.bool false)], args := [d1, d2, d3, d4] }
  | _ => none }
def DigestHexWrongFalsely : Prop := digestHexRow.holds Try.pinned (OpenSpec.ofChange digestHexWrong)

/-- 'ricklaw01.OctetsBools': WHATEVER THE INPUT: true; the input reads as it did. -/
def octetsBoolsSpec : ChangeSpec := { name := "octetsBools", fn := fun _ => fun
  | [d1, d2] => { results := [.lit (.bool true)], args := [d1, d2] }
  | _ => none }
def octetsBoolsRow : OpenClaim := { program := "ytafkcmgfkecljaa", sum := "7c1d3e4af9951a21e42b152e71b4bdfd36cc5d5019d2aa19778ec0f707face93", func := "rick/ricklaw01.OctetsBools", spec := "octetsBools", apart := false }
def OctetsBoolsSaid : Prop := octetsBoolsRow.holds Try.pinned (OpenSpec.ofChange octetsBoolsSpec)

/-- ITS FALSE NEIGHBOUR: 'it returns false'. Refute it at one input. -/
def octetsBoolsWrong : ChangeSpec := { name := "octetsBools", fn := fun _ => fun
  | [d1, d2] => { results := [.lit (.bool false)], args := [d1, d2] }
  | _ => none }
def OctetsBoolsWrongFalsely : Prop := octetsBoolsRow.holds Try.pinned (OpenSpec.ofChange octetsBoolsWrong)

/-- 'ricklaw01.OctetsWrite': WHATEVER THE INPUT: true; the input reads as it did. -/
def octetsWriteSpec : ChangeSpec := { name := "octetsWrite", fn := fun _ => fun
  | [d] => { results := [.lit (.bool true)], args := [d] }
  | _ => none }
def octetsWriteRow : OpenClaim := { program := "ytafkcmgfkecljaa", sum := "7c1d3e4af9951a21e42b152e71b4bdfd36cc5d5019d2aa19778ec0f707face93", func := "rick/ricklaw01.OctetsWrite", spec := "octetsWrite", apart := false }
def OctetsWriteSaid : Prop := octetsWriteRow.holds Try.pinned (OpenSpec.ofChange octetsWriteSpec)

/-- ITS FALSE NEIGHBOUR: 'it returns false'. Refute it at one input. -/
def octetsWriteWrong : ChangeSpec := { name := "octetsWrite", fn := fun _ => fun
  | [d] => { results := [.lit (.bool false)], args := [d] }
  | _ => none }
def OctetsWriteWrongFalsely : Prop := octetsWriteRow.holds Try.pinned (OpenSpec.ofChange octetsWriteWrong)

/-- 'ricklaw01.OctetsNil': WHATEVER THE INPUT: true; the input reads as it did. -/
def octetsNilSpec : ChangeSpec := { name := "octetsNil", fn := fun _ => fun
  | [d1, d2] => { results := [.lit (.bool true)], args := [d1, d2] }
  | _ => none }
def octetsNilRow : OpenClaim := { program := "ytafkcmgfkecljaa", sum := "7c1d3e4af9951a21e42b152e71b4bdfd36cc5d5019d2aa19778ec0f707face93", func := "rick/ricklaw01.OctetsNil", spec := "octetsNil", apart := false }
def OctetsNilSaid : Prop := octetsNilRow.holds Try.pinned (OpenSpec.ofChange octetsNilSpec)

/-- ITS FALSE NEIGHBOUR: 'it returns false'. Refute it at one input. -/
def octetsNilWrong : ChangeSpec := { name := "octetsNil", fn := fun _ => fun
  | [d1, d2] => { results := [.lit (.bool false)], args := [d1, d2] }
  | _ => none }
def OctetsNilWrongFalsely : Prop := octetsNilRow.holds Try.pinned (OpenSpec.ofChange octetsNilWrong)

/- THE SECOND FORM. 'bulk': how many values and letters a reading holds, each counted each time it is reached (what is shared counts as often as it is met; a slice's spare places count too). A statement '..UptoSaid' is the law's where the arguments, and the package variables that the reading takes, are together of bulk at most 1048576: NARROWER than '..Said'. Prove '..Said' where nothing that the law and all that it calls make is longer than what came in: it says more and counts as full. Else prove '..UptoSaid'. A law counts once. -/
mutual
def uptoBulk {H : Type} : DataW H → Nat
  | .lit (.string bytes) => bytes.length + 1
  | .lit _ => 1
  | .nil => 1
  | .ptr d => uptoBulk d + 1
  | .slice elems spare => uptoBulkAll elems + uptoBulkAll spare + 1
  | .agg parts => uptoBulkAll parts + 1
  | .iface _ d => uptoBulk d + 1
  | .map entries => uptoBulkEntries entries + 1
  | .held _ => 1
def uptoBulkAll {H : Type} : List (DataW H) → Nat
  | [] => 0
  | d :: r => uptoBulk d + uptoBulkAll r
def uptoBulkEntries {H : Type} : List (Lit × DataW H) → Nat
  | [] => 0
  | x :: r => uptoBulkEntry x + uptoBulkEntries r
def uptoBulkEntry {H : Type} : Lit × DataW H → Nat
  | (.string bytes, d) => bytes.length + uptoBulk d + 1
  | (_, d) => uptoBulk d + 1
 end
def uptoSmall : (H : Type) → List (DataW H) → Bool := fun _ ds => decide (uptoBulkAll ds ≤ 1048576)
def OpenSpec.upto (s : _root_.Go.ChangeSpec) : _root_.Go.OpenSpec := { _root_.Go.OpenSpec.ofChange s with cond := some uptoSmall }

/-- 'ricklaw01.OctetsLow', WHERE WHAT IT READS IS OF BULK AT MOST 1048576: true; the input reads as it did. -/
def octetsLowUptoRow : OpenClaim := { program := "ytafkcmgfkecljaa", sum := "7c1d3e4af9951a21e42b152e71b4bdfd36cc5d5019d2aa19778ec0f707face93", func := "rick/ricklaw01.OctetsLow", spec := "octetsLow", apart := false, narrowed := true }
def OctetsLowUptoSaid : Prop := octetsLowUptoRow.holds Try.pinned (OpenSpec.upto octetsLowSpec)

/-- 'ricklaw02.DigestLong', WHERE WHAT IT READS IS OF BULK AT MOST 1048576: true; the input reads as it did. -/
def digestLongUptoRow : OpenClaim := { program := "ytafkcmgfkecljaa", sum := "7c1d3e4af9951a21e42b152e71b4bdfd36cc5d5019d2aa19778ec0f707face93", func := "rick/ricklaw02.DigestLong", spec := "digestLong", apart := false, narrowed := true }
def DigestLongUptoSaid : Prop := digestLongUptoRow.holds Try.pinned (OpenSpec.upto digestLongSpec)

/-- 'ricklaw02.DigestTells', WHERE WHAT IT READS IS OF BULK AT MOST 1048576: true; the input reads as it did. -/
def digestTellsUptoRow : OpenClaim := { program := "ytafkcmgfkecljaa", sum := "7c1d3e4af9951a21e42b152e71b4bdfd36cc5d5019d2aa19778ec0f707face93", func := "rick/ricklaw02.DigestTells", spec := "digestTells", inPlace := ["internal/bytealg.Compare"], unfollowed := true, recurses := true, apart := false, narrowed := true }
def DigestTellsUptoSaid : Prop := digestTellsUptoRow.holds Try.pinned (OpenSpec.upto digestTellsSpec)

/-- 'ricklaw02.DigestOrder', WHERE WHAT IT READS IS OF BULK AT MOST 1048576: true; the input reads as it did. -/
def digestOrderUptoRow : OpenClaim := { program := "ytafkcmgfkecljaa", sum := "7c1d3e4af9951a21e42b152e71b4bdfd36cc5d5019d2aa19778ec0f707face93", func := "rick/ricklaw02.DigestOrder", spec := "digestOrder", inPlace := ["internal/bytealg.Compare"], apart := false, narrowed := true }
def DigestOrderUptoSaid : Prop := digestOrderUptoRow.holds Try.pinned (OpenSpec.upto digestOrderSpec)

/-- 'ricklaw01.OctetsRead', WHERE WHAT IT READS IS OF BULK AT MOST 1048576: true; the input reads as it did. -/
def octetsReadUptoRow : OpenClaim := { program := "ytafkcmgfkecljaa", sum := "7c1d3e4af9951a21e42b152e71b4bdfd36cc5d5019d2aa19778ec0f707face93", func := "rick/ricklaw01.OctetsRead", spec := "octetsRead", unfollowed := true, recurses := true, apart := false, narrowed := true }
def OctetsReadUptoSaid : Prop := octetsReadUptoRow.holds Try.pinned (OpenSpec.upto octetsReadSpec)

/-- 'ricklaw02.DigestHex', WHERE WHAT IT READS IS OF BULK AT MOST 1048576: true; the input reads as it did. -/
def digestHexUptoRow : OpenClaim := { program := "ytafkcmgfkecljaa", sum := "7c1d3e4af9951a21e42b152e71b4bdfd36cc5d5019d2aa19778ec0f707face93", func := "rick/ricklaw02.DigestHex", spec := "digestHex", inPlace := ["internal/bytealg.IndexByte"], apart := false, narrowed := true }
def DigestHexUptoSaid : Prop := digestHexUptoRow.holds Try.pinned (OpenSpec.upto digestHexSpec)

/-- 'ricklaw01.OctetsBools', WHERE WHAT IT READS IS OF BULK AT MOST 1048576: true; the input reads as it did. -/
def octetsBoolsUptoRow : OpenClaim := { program := "ytafkcmgfkecljaa", sum := "7c1d3e4af9951a21e42b152e71b4bdfd36cc5d5019d2aa19778ec0f707face93", func := "rick/ricklaw01.OctetsBools", spec := "octetsBools", apart := false, narrowed := true }
def OctetsBoolsUptoSaid : Prop := octetsBoolsUptoRow.holds Try.pinned (OpenSpec.upto octetsBoolsSpec)

/-- 'ricklaw01.OctetsWrite', WHERE WHAT IT READS IS OF BULK AT MOST 1048576: true; the input reads as it did. -/
def octetsWriteUptoRow : OpenClaim := { program := "ytafkcmgfkecljaa", sum := "7c1d3e4af9951a21e42b152e71b4bdfd36cc5d5019d2aa19778ec0f707face93", func := "rick/ricklaw01.OctetsWrite", spec := "octetsWrite", apart := false, narrowed := true }
def OctetsWriteUptoSaid : Prop := octetsWriteUptoRow.holds Try.pinned (OpenSpec.upto octetsWriteSpec)

/-- 'ricklaw01.OctetsNil', WHERE WHAT IT READS IS OF BULK AT MOST 1048576: true; the input reads as it did. -/
def octetsNilUptoRow : OpenClaim := { program := "ytafkcmgfkecljaa", sum := "7c1d3e4af9951a21e42b152e71b4bdfd36cc5d5019d2aa19778ec0f707face93", func := "rick/ricklaw01.OctetsNil", spec := "octetsNil", apart := false, narrowed := true }
def OctetsNilUptoSaid : Prop := octetsNilUptoRow.holds Try.pinned (OpenSpec.upto octetsNilSpec)

end Rows
end Go.Proofs.Ytafkcmgfkecljaa
