/-
  No cell of these rows narrows 'for every input' (looked for: loops, veiled, ifaces, maps, wideKeys, modest, calm, conditions, laid).
  DERIVED. THE GIVEN ROWS OF THIS SEAT. 4 by the template 'for every input the law returns true; each argument reads behind the call as it read before'; 0 by the template 'total and deterministic' (their statements: YtbgjkpokmlkgiaaTotals.lean).
  GIVEN WITH THE SEED: the statements are not yours to turn. If you find one false, say at which input.
  Laid BY PROGRAM, IN A SANDBOX (cutbox-rows.mjs): the forced cells as the released guide's own fill.sh prints them over the translation 4f82b101a19092a3… (all of the seat's roots in one cut). By AI agents, Wed Nov 11 2026. No macro, syntax, notation, axiom, sorry.
-/
import Derived.Test.YtbgjkpokmlkgiaaChecked
import GoSem.Claim
import GoSem.ClaimJoined
import GoSem.ClaimMapViews
import Derived.JoinedTies
import Derived.KernelRfl
namespace Go.Proofs.Ytbgjkpokmlkgiaa
/- THE CELL 'sum', in the pinned program and in every row, IS THE sha256 OF THE DUMP (.gsa) THAT YtbgjkpokmlkgiaaProg.lean LOADS. Nothing in Lean hashes anything: it is a label: what it is worth is what the hold of that sum in a sandbox is worth. -/
noncomputable def Try.pinned : Pinned := { name := "ytbgjkpokmlkgiaa", sum := "4f82b101a19092a35157977315b97651a4de957b598cce9d0e65d7b5f8ff548e", checked := Try.checked }
namespace Rows
def none {H : Type} : Left H := { results := [], args := [] }

/-- 'manciplelaw19.ActCounts': WHATEVER THE INPUT: true; the input reads as it did. -/
def actCountsSpec : ChangeSpec := { name := "actCounts", fn := fun _ => fun
  | [d] => { results := [.lit (.bool true)], args := [d] }
  | _ => none }
def actCountsRow : OpenClaim := { program := "ytbgjkpokmlkgiaa", sum := "4f82b101a19092a35157977315b97651a4de957b598cce9d0e65d7b5f8ff548e", func := "manciple/manciplelaw19.ActCounts", spec := "actCounts", inPlace := ["math.Float64bits", "math.Float64frombits"], apart := false }
def ActCountsSaid : Prop := actCountsRow.holds Try.pinned (OpenSpec.ofChange actCountsSpec)

/-- ITS FALSE NEIGHBOUR: 'it returns false'. Refute it at one input. -/
def actCountsWrong : ChangeSpec := { name := "actCounts", fn := fun _ => fun
  | [d] => { results := [.lit (.bool false)], args := [d] }
  | _ => none }
def ActCountsWrongFalsely : Prop := actCountsRow.holds Try.pinned (OpenSpec.ofChange actCountsWrong)

/-- 'manciplelaw19.ActEdges': WHATEVER THE INPUT: true; the input reads as it did. -/
def actEdgesSpec : ChangeSpec := { name := "actEdges", fn := fun _ => fun
  | [d1, d2] => { results := [.lit (.bool true)], args := [d1, d2] }
  | _ => none }
def actEdgesRow : OpenClaim := { program := "ytbgjkpokmlkgiaa", sum := "4f82b101a19092a35157977315b97651a4de957b598cce9d0e65d7b5f8ff548e", func := "manciple/manciplelaw19.ActEdges", spec := "actEdges", inPlace := ["math.Float64bits", "math.Float64frombits"], apart := false }
def ActEdgesSaid : Prop := actEdgesRow.holds Try.pinned (OpenSpec.ofChange actEdgesSpec)

/-- ITS FALSE NEIGHBOUR: 'it returns false'. Refute it at one input. -/
def actEdgesWrong : ChangeSpec := { name := "actEdges", fn := fun _ => fun
  | [d1, d2] => { results := [.lit (.bool false)], args := [d1, d2] }
  | _ => none }
def ActEdgesWrongFalsely : Prop := actEdgesRow.holds Try.pinned (OpenSpec.ofChange actEdgesWrong)

/-- 'manciplelaw19.ActPlays': WHATEVER THE INPUT: true; the input reads as it did. -/
def actPlaysSpec : ChangeSpec := { name := "actPlays", fn := fun _ => fun
  | [d1, d2] => { results := [.lit (.bool true)], args := [d1, d2] }
  | _ => none }
def actPlaysRow : OpenClaim := { program := "ytbgjkpokmlkgiaa", sum := "4f82b101a19092a35157977315b97651a4de957b598cce9d0e65d7b5f8ff548e", func := "manciple/manciplelaw19.ActPlays", spec := "actPlays", inPlace := ["math.Float64bits", "math.Float64frombits"], apart := false }
def ActPlaysSaid : Prop := actPlaysRow.holds Try.pinned (OpenSpec.ofChange actPlaysSpec)

/-- ITS FALSE NEIGHBOUR: 'it returns false'. Refute it at one input. -/
def actPlaysWrong : ChangeSpec := { name := "actPlays", fn := fun _ => fun
  | [d1, d2] => { results := [.lit (.bool false)], args := [d1, d2] }
  | _ => none }
def ActPlaysWrongFalsely : Prop := actPlaysRow.holds Try.pinned (OpenSpec.ofChange actPlaysWrong)

/-- 'manciplelaw19.ActScales': WHATEVER THE INPUT: true; the input reads as it did. -/
def actScalesSpec : ChangeSpec := { name := "actScales", fn := fun _ => fun
  | [d] => { results := [.lit (.bool true)], args := [d] }
  | _ => none }
def actScalesRow : OpenClaim := { program := "ytbgjkpokmlkgiaa", sum := "4f82b101a19092a35157977315b97651a4de957b598cce9d0e65d7b5f8ff548e", func := "manciple/manciplelaw19.ActScales", spec := "actScales", inPlace := ["math.Float64bits", "math.Float64frombits"], apart := false }
def ActScalesSaid : Prop := actScalesRow.holds Try.pinned (OpenSpec.ofChange actScalesSpec)

/-- ITS FALSE NEIGHBOUR: 'it returns false'. Refute it at one input. -/
def actScalesWrong : ChangeSpec := { name := "actScales", fn := fun _ => fun
  | [d] => { results := [.lit (.bool false)], args := [d] }
  | _ => none }
def ActScalesWrongFalsely : Prop := actScalesRow.holds Try.pinned (OpenSpec.ofChange actScalesWrong)

/- THE SECOND FORM. 'bulk': how many values and letters a reading holds, each counted each time it is reached (what is shared counts as often as it is met; a slice's spare places count too). A statement '..UptoSaid' is the law's where the arguments, and the package variables that the reading takes, are together of bulk at most 1048576: NARROWER than '..Said'. Prove '..Said' where nothing that the law and all that it calls make is longer than what came in: it says more and counts as full. Else prove '..UptoSaid'. A law counts once. -/
mutual
def uptoBulk {H : Type} : DataW H → Nat
  | .lit (.string bytes) => bytes.length + 1
  | .lit _ => 1
  | .nil => 1
  | .ptr d => uptoBulk d + 1
  | .slice elems spare => uptoBulkAll elems + uptoBulkAll spare + 1
  | .agg parts => uptoBulkAll parts + 1
  | .iface _ d => uptoBulk d + 1
  | .map entries => uptoBulkEntries entries + 1
  | .held _ => 1
def uptoBulkAll {H : Type} : List (DataW H) → Nat
  | [] => 0
  | d :: r => uptoBulk d + uptoBulkAll r
def uptoBulkEntries {H : Type} : List (Lit × DataW H) → Nat
  | [] => 0
  | x :: r => uptoBulkEntry x + uptoBulkEntries r
def uptoBulkEntry {H : Type} : Lit × DataW H → Nat
  | (.string bytes, d) => bytes.length + uptoBulk d + 1
  | (_, d) => uptoBulk d + 1
 end
def uptoSmall : (H : Type) → List (DataW H) → Bool := fun _ ds => decide (uptoBulkAll ds ≤ 1048576)
def OpenSpec.upto (s : _root_.Go.ChangeSpec) : _root_.Go.OpenSpec := { _root_.Go.OpenSpec.ofChange s with cond := some uptoSmall }

/-- 'manciplelaw19.ActCounts', WHERE WHAT IT READS IS OF BULK AT MOST 1048576: true; the input reads as it did. -/
def actCountsUptoRow : OpenClaim := { program := "ytbgjkpokmlkgiaa", sum := "4f82b101a19092a35157977315b97651a4de957b598cce9d0e65d7b5f8ff548e", func := "manciple/manciplelaw19.ActCounts", spec := "actCounts", inPlace := ["math.Float64bits", "math.Float64frombits"], apart := false, narrowed := true }
def ActCountsUptoSaid : Prop := actCountsUptoRow.holds Try.pinned (OpenSpec.upto actCountsSpec)

/-- 'manciplelaw19.ActEdges', WHERE WHAT IT READS IS OF BULK AT MOST 1048576: true; the input reads as it did. -/
def actEdgesUptoRow : OpenClaim := { program := "ytbgjkpokmlkgiaa", sum := "4f82b101a19092a35157977315b97651a4de957b598cce9d0e65d7b5f8ff548e", func := "manciple/manciplelaw19.ActEdges", spec := "actEdges", inPlace := ["math.Float64bits", "math.Float64frombits"], apart := false, narrowed := true }
def ActEdgesUptoSaid : Prop := actEdgesUptoRow.holds Try.pinned (OpenSpec.upto actEdgesSpec)

/-- 'manciplelaw19.ActPlays', WHERE WHAT IT READS IS OF BULK AT MOST 1048576: true; the input reads as it did. -/
def actPlaysUptoRow : OpenClaim := { program := "ytbgjkpokmlkgiaa", sum := "4f82b101a19092a35157977315b97651a4de957b598cce9d0e65d7b5f8ff548e", func := "manciple/manciplelaw19.ActPlays", spec := "actPlays", inPlace := ["math.Float64bits", "math.Float64frombits"], apart := false, narrowed := true }
def ActPlaysUptoSaid : Prop := actPlaysUptoRow.holds Try.pinned (OpenSpec.upto actPlaysSpec)

/-- 'manciplelaw19.ActScales', WHERE WHAT IT READS IS OF BULK AT MOST 1048576: true; the input reads as it did. -/
def actScalesUptoRow : OpenClaim := { program := "ytbgjkpokmlkgiaa", sum := "4f82b101a19092a35157977315b97651a4de957b598cce9d0e65d7b5f8ff548e", func := "manciple/manciplelaw19.ActScales", spec := "actScales", inPlace := ["math.Float64bits", "math.Float64frombits"], apart := false, narrowed := true }
def ActScalesUptoSaid : Prop := actScalesUptoRow.holds Try.pinned (OpenSpec.upto actScalesSpec)

end Rows
end Go.Proofs.Ytbgjkpokmlkgiaa
