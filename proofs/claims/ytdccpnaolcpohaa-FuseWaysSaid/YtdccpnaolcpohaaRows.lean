/-
  No cell of these rows narrows 'for every input' (looked for: loops, veiled, ifaces, maps, wideKeys, modest, calm, conditions, laid).
  DERIVED. THE GIVEN ROWS OF THIS SEAT. 10 by the template 'for every input the law returns true; each argument reads behind the call as it read before'; 0 by the template 'total and deterministic' (their statements: YtdccpnaolcpohaaTotals.lean).
  GIVEN WITH THE SEED: the statements are not yours to turn. If you find one false, say at which input.
  Laid BY PROGRAM, IN A SANDBOX (cutbox-rows.mjs): the forced cells as the released guide's own fill.sh prints them over the translation a60e2765be6692af… (all of the seat's roots in one cut). By AI agents, Wed Nov 11 2026. No macro, syntax, notation, axiom, sorry.
-/
import Derived.Test.YtdccpnaolcpohaaChecked
import GoSem.Claim
import GoSem.ClaimJoined
import GoSem.ClaimMapViews
import Derived.JoinedTies
import Derived.KernelRfl
namespace Go.Proofs.Ytdccpnaolcpohaa
/- THE CELL 'sum', in the pinned program and in every row, IS THE sha256 OF THE DUMP (.gsa) THAT YtdccpnaolcpohaaProg.lean LOADS. Nothing in Lean hashes anything: it is a label: what it is worth is what the hold of that sum in a sandbox is worth. -/
noncomputable def Try.pinned : Pinned := { name := "ytdccpnaolcpohaa", sum := "a60e2765be6692af687985a48a2b1470bd9bc8f10239e0a07845a095b6bafcb9", checked := Try.checked }
namespace Rows
def none {H : Type} : Left H := { results := [], args := [] }

/-- 'chequerlaw11.MapsThen': WHATEVER THE INPUT: true; the input reads as it did. -/
def mapsThenSpec : ChangeSpec := { name := "mapsThen", fn := fun _ => fun
  | [d1, d2, d3] => { results := [.lit (.bool true)], args := [d1, d2, d3] }
  | _ => none }
def mapsThenRow : OpenClaim := { program := "ytdccpnaolcpohaa", sum := "a60e2765be6692af687985a48a2b1470bd9bc8f10239e0a07845a095b6bafcb9", func := "chequer/chequerlaw11.MapsThen", spec := "mapsThen", unfollowed := true, recurses := true, apart := false }
def MapsThenSaid : Prop := mapsThenRow.holds Try.pinned (OpenSpec.ofChange mapsThenSpec)

/-- ITS FALSE NEIGHBOUR: 'it returns false'. Refute it at one input. -/
def mapsThenWrong : ChangeSpec := { name := "mapsThen", fn := fun _ => fun
  | [d1, d2, d3] => { results := [.lit (.bool false)], args := [d1, d2, d3] }
  | _ => none }
def MapsThenWrongFalsely : Prop := mapsThenRow.holds Try.pinned (OpenSpec.ofChange mapsThenWrong)

/-- 'chequerlaw11.MapsTurns': WHATEVER THE INPUT: true; the input reads as it did. -/
def mapsTurnsSpec : ChangeSpec := { name := "mapsTurns", fn := fun _ => fun
  | [d1, d2] => { results := [.lit (.bool true)], args := [d1, d2] }
  | _ => none }
def mapsTurnsRow : OpenClaim := { program := "ytdccpnaolcpohaa", sum := "a60e2765be6692af687985a48a2b1470bd9bc8f10239e0a07845a095b6bafcb9", func := "chequer/chequerlaw11.MapsTurns", spec := "mapsTurns", unfollowed := true, recurses := true, apart := false }
def MapsTurnsSaid : Prop := mapsTurnsRow.holds Try.pinned (OpenSpec.ofChange mapsTurnsSpec)

/-- ITS FALSE NEIGHBOUR: 'it returns false'. Refute it at one input. -/
def mapsTurnsWrong : ChangeSpec := { name := "mapsTurns", fn := fun _ => fun
  | [d1, d2] => { results := [.lit (.bool false)], args := [d1, d2] }
  | _ => none }
def MapsTurnsWrongFalsely : Prop := mapsTurnsRow.holds Try.pinned (OpenSpec.ofChange mapsTurnsWrong)

/-- 'chequerlaw11.MapsSpan': WHATEVER THE INPUT: true; the input reads as it did. -/
def mapsSpanSpec : ChangeSpec := { name := "mapsSpan", fn := fun _ => fun
  | [d1, d2, d3] => { results := [.lit (.bool true)], args := [d1, d2, d3] }
  | _ => none }
def mapsSpanRow : OpenClaim := { program := "ytdccpnaolcpohaa", sum := "a60e2765be6692af687985a48a2b1470bd9bc8f10239e0a07845a095b6bafcb9", func := "chequer/chequerlaw11.MapsSpan", spec := "mapsSpan", unfollowed := true, recurses := true, apart := false }
def MapsSpanSaid : Prop := mapsSpanRow.holds Try.pinned (OpenSpec.ofChange mapsSpanSpec)

/-- ITS FALSE NEIGHBOUR: 'it returns false'. Refute it at one input. -/
def mapsSpanWrong : ChangeSpec := { name := "mapsSpan", fn := fun _ => fun
  | [d1, d2, d3] => { results := [.lit (.bool false)], args := [d1, d2, d3] }
  | _ => none }
def MapsSpanWrongFalsely : Prop := mapsSpanRow.holds Try.pinned (OpenSpec.ofChange mapsSpanWrong)

/-- 'chequerlaw11.MapsBack': WHATEVER THE INPUT: true; the input reads as it did. -/
def mapsBackSpec : ChangeSpec := { name := "mapsBack", fn := fun _ => fun
  | [d1, d2] => { results := [.lit (.bool true)], args := [d1, d2] }
  | _ => none }
def mapsBackRow : OpenClaim := { program := "ytdccpnaolcpohaa", sum := "a60e2765be6692af687985a48a2b1470bd9bc8f10239e0a07845a095b6bafcb9", func := "chequer/chequerlaw11.MapsBack", spec := "mapsBack", unfollowed := true, recurses := true, apart := false }
def MapsBackSaid : Prop := mapsBackRow.holds Try.pinned (OpenSpec.ofChange mapsBackSpec)

/-- ITS FALSE NEIGHBOUR: 'it returns false'. Refute it at one input. -/
def mapsBackWrong : ChangeSpec := { name := "mapsBack", fn := fun _ => fun
  | [d1, d2] => { results := [.lit (.bool false)], args := [d1, d2] }
  | _ => none }
def MapsBackWrongFalsely : Prop := mapsBackRow.holds Try.pinned (OpenSpec.ofChange mapsBackWrong)

/-- 'chequerlaw19.FuseAll': WHATEVER THE INPUT: true; the input reads as it did. -/
def fuseAllSpec : ChangeSpec := { name := "fuseAll", fn := fun _ => fun
  | [d1, d2] => { results := [.lit (.bool true)], args := [d1, d2] }
  | _ => none }
def fuseAllRow : OpenClaim := { program := "ytdccpnaolcpohaa", sum := "a60e2765be6692af687985a48a2b1470bd9bc8f10239e0a07845a095b6bafcb9", func := "chequer/chequerlaw19.FuseAll", spec := "fuseAll", unfollowed := true, recurses := true, apart := false }
def FuseAllSaid : Prop := fuseAllRow.holds Try.pinned (OpenSpec.ofChange fuseAllSpec)

/-- ITS FALSE NEIGHBOUR: 'it returns false'. Refute it at one input. -/
def fuseAllWrong : ChangeSpec := { name := "fuseAll", fn := fun _ => fun
  | [d1, d2] => { results := [.lit (.bool false)], args := [d1, d2] }
  | _ => none }
def FuseAllWrongFalsely : Prop := fuseAllRow.holds Try.pinned (OpenSpec.ofChange fuseAllWrong)

/-- 'chequerlaw19.FuseMade': WHATEVER THE INPUT: true; the input reads as it did. -/
def fuseMadeSpec : ChangeSpec := { name := "fuseMade", fn := fun _ => fun
  | [d1, d2] => { results := [.lit (.bool true)], args := [d1, d2] }
  | _ => none }
def fuseMadeRow : OpenClaim := { program := "ytdccpnaolcpohaa", sum := "a60e2765be6692af687985a48a2b1470bd9bc8f10239e0a07845a095b6bafcb9", func := "chequer/chequerlaw19.FuseMade", spec := "fuseMade", unfollowed := true, recurses := true, apart := false }
def FuseMadeSaid : Prop := fuseMadeRow.holds Try.pinned (OpenSpec.ofChange fuseMadeSpec)

/-- ITS FALSE NEIGHBOUR: 'it returns false'. Refute it at one input. -/
def fuseMadeWrong : ChangeSpec := { name := "fuseMade", fn := fun _ => fun
  | [d1, d2] => { results := [.lit (.bool false)], args := [d1, d2] }
  | _ => none }
def FuseMadeWrongFalsely : Prop := fuseMadeRow.holds Try.pinned (OpenSpec.ofChange fuseMadeWrong)

/-- 'chequerlaw19.FuseWays': WHATEVER THE INPUT: true; the input reads as it did. -/
def fuseWaysSpec : ChangeSpec := { name := "fuseWays", fn := fun _ => fun
  | [d1, d2] => { results := [.lit (.bool true)], args := [d1, d2] }
  | _ => none }
def fuseWaysRow : OpenClaim := { program := "ytdccpnaolcpohaa", sum := "a60e2765be6692af687985a48a2b1470bd9bc8f10239e0a07845a095b6bafcb9", func := "chequer/chequerlaw19.FuseWays", spec := "fuseWays", unfollowed := true, recurses := true, apart := false }
def FuseWaysSaid : Prop := fuseWaysRow.holds Try.pinned (OpenSpec.ofChange fuseWaysSpec)

/-- ITS FALSE NEIGHBOUR: 'it returns false'. Refute it at one input. -/
def fuseWaysWrong : ChangeSpec := { name := "fuseWays", fn := fun _ => fun
  | [d1, d2] => { results := [.lit (.bool false)], args := [d1, d2] }
  | _ => none }
def FuseWaysWrongFalsely : Prop := fuseWaysRow.holds Try.pinned (OpenSpec.ofChange fuseWaysWrong)

/-- 'chequerlaw19.FuseOne': WHATEVER THE INPUT: true; the input reads as it did. -/
def fuseOneSpec : ChangeSpec := { name := "fuseOne", fn := fun _ => fun
  | [d] => { results := [.lit (.bool true)], args := [d] }
  | _ => none }
def fuseOneRow : OpenClaim := { program := "ytdccpnaolcpohaa", sum := "a60e2765be6692af687985a48a2b1470bd9bc8f10239e0a07845a095b6bafcb9", func := "chequer/chequerlaw19.FuseOne", spec := "fuseOne", unfollowed := true, recurses := true, apart := false }
def FuseOneSaid : Prop := fuseOneRow.holds Try.pinned (OpenSpec.ofChange fuseOneSpec)

/-- ITS FALSE NEIGHBOUR: 'it returns false'. Refute it at one input. -/
def fuseOneWrong : ChangeSpec := { name := "fuseOne", fn := fun _ => fun
  | [d] => { results := [.lit (.bool false)], args := [d] }
  | _ => none }
def FuseOneWrongFalsely : Prop := fuseOneRow.holds Try.pinned (OpenSpec.ofChange fuseOneWrong)

/-- 'chequerlaw11.MapsMade': WHATEVER THE INPUT: true; the input reads as it did. -/
def mapsMadeSpec : ChangeSpec := { name := "mapsMade", fn := fun _ => fun
  | [d1, d2, d3, d4, d5] => { results := [.lit (.bool true)], args := [d1, d2, d3, d4, d5] }
  | _ => none }
def mapsMadeRow : OpenClaim := { program := "ytdccpnaolcpohaa", sum := "a60e2765be6692af687985a48a2b1470bd9bc8f10239e0a07845a095b6bafcb9", func := "chequer/chequerlaw11.MapsMade", spec := "mapsMade", unfollowed := true, recurses := true, apart := false }
def MapsMadeSaid : Prop := mapsMadeRow.holds Try.pinned (OpenSpec.ofChange mapsMadeSpec)

/-- ITS FALSE NEIGHBOUR: 'it returns false'. Refute it at one input. -/
def mapsMadeWrong : ChangeSpec := { name := "mapsMade", fn := fun _ => fun
  | [d1, d2, d3, d4, d5] => { results := [.lit (.bool false)], args := [d1, d2, d3, d4, d5] }
  | _ => none }
def MapsMadeWrongFalsely : Prop := mapsMadeRow.holds Try.pinned (OpenSpec.ofChange mapsMadeWrong)

/-- 'chequerlaw11.MapsAll': WHATEVER THE INPUT: true; the input reads as it did. -/
def mapsAllSpec : ChangeSpec := { name := "mapsAll", fn := fun _ => fun
  | [d1, d2, d3, d4, d5, d6] => { results := [.lit (.bool true)], args := [d1, d2, d3, d4, d5, d6] }
  | _ => none }
def mapsAllRow : OpenClaim := { program := "ytdccpnaolcpohaa", sum := "a60e2765be6692af687985a48a2b1470bd9bc8f10239e0a07845a095b6bafcb9", func := "chequer/chequerlaw11.MapsAll", spec := "mapsAll", unfollowed := true, recurses := true, apart := false }
def MapsAllSaid : Prop := mapsAllRow.holds Try.pinned (OpenSpec.ofChange mapsAllSpec)

/-- ITS FALSE NEIGHBOUR: 'it returns false'. Refute it at one input. -/
def mapsAllWrong : ChangeSpec := { name := "mapsAll", fn := fun _ => fun
  | [d1, d2, d3, d4, d5, d6] => { results := [.lit (.bool false)], args := [d1, d2, d3, d4, d5, d6] }
  | _ => none }
def MapsAllWrongFalsely : Prop := mapsAllRow.holds Try.pinned (OpenSpec.ofChange mapsAllWrong)

/- THE SECOND FORM. 'bulk': how many values and letters a reading holds, each counted each time it is reached (what is shared counts as often as it is met; a slice's spare places count too). A statement '..UptoSaid' is the law's where the arguments, and the package variables that the reading takes, are together of bulk at most 1048576: NARROWER than '..Said'. Prove '..Said' where nothing that the law and all that it calls make is longer than what came in: it says more and counts as full. Else prove '..UptoSaid'. A law counts once. -/
mutual
def uptoBulk {H : Type} : DataW H → Nat
  | .lit (.string bytes) => bytes.length + 1
  | .lit _ => 1
  | .nil => 1
  | .ptr d => uptoBulk d + 1
  | .slice elems spare => uptoBulkAll elems + uptoBulkAll spare + 1
  | .agg parts => uptoBulkAll parts + 1
  | .iface _ d => uptoBulk d + 1
  | .map entries => uptoBulkEntries entries + 1
  | .held _ => 1
def uptoBulkAll {H : Type} : List (DataW H) → Nat
  | [] => 0
  | d :: r => uptoBulk d + uptoBulkAll r
def uptoBulkEntries {H : Type} : List (Lit × DataW H) → Nat
  | [] => 0
  | x :: r => uptoBulkEntry x + uptoBulkEntries r
def uptoBulkEntry {H : Type} : Lit × DataW H → Nat
  | (.string bytes, d) => bytes.length + uptoBulk d + 1
  | (_, d) => uptoBulk d + 1
 end
def uptoSmall : (H : Type) → List (DataW H) → Bool := fun _ ds => decide (uptoBulkAll ds ≤ 1048576)
def OpenSpec.upto (s : _root_.Go.ChangeSpec) : _root_.Go.OpenSpec := { _root_.Go.OpenSpec.ofChange s with cond := some uptoSmall }

/-- 'chequerlaw11.MapsThen', WHERE WHAT IT READS IS OF BULK AT MOST 1048576: true; the input reads as it did. -/
def mapsThenUptoRow : OpenClaim := { program := "ytdccpnaolcpohaa", sum := "a60e2765be6692af687985a48a2b1470bd9bc8f10239e0a07845a095b6bafcb9", func := "chequer/chequerlaw11.MapsThen", spec := "mapsThen", unfollowed := true, recurses := true, apart := false, narrowed := true }
def MapsThenUptoSaid : Prop := mapsThenUptoRow.holds Try.pinned (OpenSpec.upto mapsThenSpec)

/-- 'chequerlaw11.MapsTurns', WHERE WHAT IT READS IS OF BULK AT MOST 1048576: true; the input reads as it did. -/
def mapsTurnsUptoRow : OpenClaim := { program := "ytdccpnaolcpohaa", sum := "a60e2765be6692af687985a48a2b1470bd9bc8f10239e0a07845a095b6bafcb9", func := "chequer/chequerlaw11.MapsTurns", spec := "mapsTurns", unfollowed := true, recurses := true, apart := false, narrowed := true }
def MapsTurnsUptoSaid : Prop := mapsTurnsUptoRow.holds Try.pinned (OpenSpec.upto mapsTurnsSpec)

/-- 'chequerlaw11.MapsSpan', WHERE WHAT IT READS IS OF BULK AT MOST 1048576: true; the input reads as it did. -/
def mapsSpanUptoRow : OpenClaim := { program := "ytdccpnaolcpohaa", sum := "a60e2765be6692af687985a48a2b1470bd9bc8f10239e0a07845a095b6bafcb9", func := "chequer/chequerlaw11.MapsSpan", spec := "mapsSpan", unfollowed := true, recurses := true, apart := false, narrowed := true }
def MapsSpanUptoSaid : Prop := mapsSpanUptoRow.holds Try.pinned (OpenSpec.upto mapsSpanSpec)

/-- 'chequerlaw11.MapsBack', WHERE WHAT IT READS IS OF BULK AT MOST 1048576: true; the input reads as it did. -/
def mapsBackUptoRow : OpenClaim := { program := "ytdccpnaolcpohaa", sum := "a60e2765be6692af687985a48a2b1470bd9bc8f10239e0a07845a095b6bafcb9", func := "chequer/chequerlaw11.MapsBack", spec := "mapsBack", unfollowed := true, recurses := true, apart := false, narrowed := true }
def MapsBackUptoSaid : Prop := mapsBackUptoRow.holds Try.pinned (OpenSpec.upto mapsBackSpec)

/-- 'chequerlaw19.FuseAll', WHERE WHAT IT READS IS OF BULK AT MOST 1048576: true; the input reads as it did. -/
def fuseAllUptoRow : OpenClaim := { program := "ytdccpnaolcpohaa", sum := "a60e2765be6692af687985a48a2b1470bd9bc8f10239e0a07845a095b6bafcb9", func := "chequer/chequerlaw19.FuseAll", spec := "fuseAll", unfollowed := true, recurses := true, apart := false, narrowed := true }
def FuseAllUptoSaid : Prop := fuseAllUptoRow.holds Try.pinned (OpenSpec.upto fuseAllSpec)

/-- 'chequerlaw19.FuseMade', WHERE WHAT IT READS IS OF BULK AT MOST 1048576: true; the input reads as it did. -/
def fuseMadeUptoRow : OpenClaim := { program := "ytdccpnaolcpohaa", sum := "a60e2765be6692af687985a48a2b1470bd9bc8f10239e0a07845a095b6bafcb9", func := "chequer/chequerlaw19.FuseMade", spec := "fuseMade", unfollowed := true, recurses := true, apart := false, narrowed := true }
def FuseMadeUptoSaid : Prop := fuseMadeUptoRow.holds Try.pinned (OpenSpec.upto fuseMadeSpec)

/-- 'chequerlaw19.FuseWays', WHERE WHAT IT READS IS OF BULK AT MOST 1048576: true; the input reads as it did. -/
def fuseWaysUptoRow : OpenClaim := { program := "ytdccpnaolcpohaa", sum := "a60e2765be6692af687985a48a2b1470bd9bc8f10239e0a07845a095b6bafcb9", func := "chequer/chequerlaw19.FuseWays", spec := "fuseWays", unfollowed := true, recurses := true, apart := false, narrowed := true }
def FuseWaysUptoSaid : Prop := fuseWaysUptoRow.holds Try.pinned (OpenSpec.upto fuseWaysSpec)

/-- 'chequerlaw19.FuseOne', WHERE WHAT IT READS IS OF BULK AT MOST 1048576: true; the input reads as it did. -/
def fuseOneUptoRow : OpenClaim := { program := "ytdccpnaolcpohaa", sum := "a60e2765be6692af687985a48a2b1470bd9bc8f10239e0a07845a095b6bafcb9", func := "chequer/chequerlaw19.FuseOne", spec := "fuseOne", unfollowed := true, recurses := true, apart := false, narrowed := true }
def FuseOneUptoSaid : Prop := fuseOneUptoRow.holds Try.pinned (OpenSpec.upto fuseOneSpec)

/-- 'chequerlaw11.MapsMade', WHERE WHAT IT READS IS OF BULK AT MOST 1048576: true; the input reads as it did. -/
def mapsMadeUptoRow : OpenClaim := { program := "ytdccpnaolcpohaa", sum := "a60e2765be6692af687985a48a2b1470bd9bc8f10239e0a07845a095b6bafcb9", func := "chequer/chequerlaw11.MapsMade", spec := "mapsMade", unfollowed := true, recurses := true, apart := false, narrowed := true }
def MapsMadeUptoSaid : Prop := mapsMadeUptoRow.holds Try.pinned (OpenSpec.upto mapsMadeSpec)

/-- 'chequerlaw11.MapsAll', WHERE WHAT IT READS IS OF BULK AT MOST 1048576: true; the input reads as it did. -/
def mapsAllUptoRow : OpenClaim := { program := "ytdccpnaolcpohaa", sum := "a60e2765be6692af687985a48a2b1470bd9bc8f10239e0a07845a095b6bafcb9", func := "chequer/chequerlaw11.MapsAll", spec := "mapsAll", unfollowed := true, recurses := true, apart := false, narrowed := true }
def MapsAllUptoSaid : Prop := mapsAllUptoRow.holds Try.pinned (OpenSpec.upto mapsAllSpec)

end Rows
end Go.Proofs.Ytdccpnaolcpohaa
