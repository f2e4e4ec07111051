/-
  No cell of these rows narrows 'for every input' (looked for: loops, veiled, ifaces, maps, wideKeys, modest, calm, conditions, laid).
  DERIVED. THE GIVEN ROWS OF THIS SEAT. 11 by the template 'for every input the law returns true; each argument reads behind the call as it read before'; 0 by the template 'total and deterministic' (their statements: YtdaajncfhcpecaaTotals.lean).
  GIVEN WITH THE SEED: the statements are not yours to turn. If you find one false, say at which input.
  Laid BY PROGRAM, IN A SANDBOX (cutbox-rows.mjs): the forced cells as the released guide's own fill.sh prints them over the translation 0a85cec6f64be952… (all of the seat's roots in one cut). By AI agents, Wed Nov 11 2026. No macro, syntax, notation, axiom, sorry.
-/
import Derived.Test.YtdaajncfhcpecaaChecked
import GoSem.Claim
import GoSem.ClaimJoined
import GoSem.ClaimMapViews
import Derived.JoinedTies
import Derived.KernelRfl
namespace Go.Proofs.Ytdaajncfhcpecaa
/- THE CELL 'sum', in the pinned program and in every row, IS THE sha256 OF THE DUMP (.gsa) THAT YtdaajncfhcpecaaProg.lean LOADS. Nothing in Lean hashes anything: it is a label: what it is worth is what the hold of that sum in a sandbox is worth. -/
noncomputable def Try.pinned : Pinned := { name := "ytdaajncfhcpecaa", sum := "0a85cec6f64be9527b868711e1140a81249a6a49a0a90d6d3d90bbedc652c7bb", checked := Try.checked }
namespace Rows
def none {H : Type} : Left H := { results := [], args := [] }

/-- 'epicyclelaw07.ShapeSizes': WHATEVER THE INPUT: true; the input reads as it did. -/
def shapeSizesSpec : ChangeSpec := { name := "shapeSizes", fn := fun _ => fun
  | [d] => { results := [.lit (.bool true)], args := [d] }
  | _ => none }
def shapeSizesRow : OpenClaim := { program := "ytdaajncfhcpecaa", sum := "0a85cec6f64be9527b868711e1140a81249a6a49a0a90d6d3d90bbedc652c7bb", func := "epicycle/epicyclelaw07.ShapeSizes", spec := "shapeSizes", apart := false }
def ShapeSizesSaid : Prop := shapeSizesRow.holds Try.pinned (OpenSpec.ofChange shapeSizesSpec)

/-- ITS FALSE NEIGHBOUR: 'it returns false'. Refute it at one input. -/
def shapeSizesWrong : ChangeSpec := { name := "shapeSizes", fn := fun _ => fun
  | [d] => { results := [.lit (.bool false)], args := [d] }
  | _ => none }
def ShapeSizesWrongFalsely : Prop := shapeSizesRow.holds Try.pinned (OpenSpec.ofChange shapeSizesWrong)

/-- 'epicyclelaw07.ShapeNumbers': WHATEVER THE INPUT: true; the input reads as it did. -/
def shapeNumbersSpec : ChangeSpec := { name := "shapeNumbers", fn := fun _ => fun
  | [d1, d2, d3] => { results := [.lit (.bool true)], args := [d1, d2, d3] }
  | _ => none }
def shapeNumbersRow : OpenClaim := { program := "ytdaajncfhcpecaa", sum := "0a85cec6f64be9527b868711e1140a81249a6a49a0a90d6d3d90bbedc652c7bb", func := "epicycle/epicyclelaw07.ShapeNumbers", spec := "shapeNumbers", apart := false }
def ShapeNumbersSaid : Prop := shapeNumbersRow.holds Try.pinned (OpenSpec.ofChange shapeNumbersSpec)

/-- ITS FALSE NEIGHBOUR: 'it returns false'. Refute it at one input. -/
def shapeNumbersWrong : ChangeSpec := { name := "shapeNumbers", fn := fun _ => fun
  | [d1, d2, d3] => { results := [.lit (.bool false)], args := [d1, d2, d3] }
  | _ => none }
def ShapeNumbersWrongFalsely : Prop := shapeNumbersRow.holds Try.pinned (OpenSpec.ofChange shapeNumbersWrong)

/-- 'epicyclelaw07.ShapeOnce': WHATEVER THE INPUT: true; the input reads as it did. -/
def shapeOnceSpec : ChangeSpec := { name := "shapeOnce", fn := fun _ => fun
  | [d1, d2, d3] => { results := [.lit (.bool true)], args := [d1, d2, d3] }
  | _ => none }
def shapeOnceRow : OpenClaim := { program := "ytdaajncfhcpecaa", sum := "0a85cec6f64be9527b868711e1140a81249a6a49a0a90d6d3d90bbedc652c7bb", func := "epicycle/epicyclelaw07.ShapeOnce", spec := "shapeOnce", apart := false }
def ShapeOnceSaid : Prop := shapeOnceRow.holds Try.pinned (OpenSpec.ofChange shapeOnceSpec)

/-- ITS FALSE NEIGHBOUR: 'it returns false'. Refute it at one input. -/
def shapeOnceWrong : ChangeSpec := { name := "shapeOnce", fn := fun _ => fun
  | [d1, d2, d3] => { results := [.lit (.bool false)], args := [d1, d2, d3] }
  | _ => none }
def ShapeOnceWrongFalsely : Prop := shapeOnceRow.holds Try.pinned (OpenSpec.ofChange shapeOnceWrong)

/-- 'epicyclelaw07.ShapeAll': WHATEVER THE INPUT: true; the input reads as it did. -/
def shapeAllSpec : ChangeSpec := { name := "shapeAll", fn := fun _ => fun
  | [d1, d2] => { results := [.lit (.bool true)], args := [d1, d2] }
  | _ => none }
def shapeAllRow : OpenClaim := { program := "ytdaajncfhcpecaa", sum := "0a85cec6f64be9527b868711e1140a81249a6a49a0a90d6d3d90bbedc652c7bb", func := "epicycle/epicyclelaw07.ShapeAll", spec := "shapeAll", unfollowed := true, recurses := true, apart := false }
def ShapeAllSaid : Prop := shapeAllRow.holds Try.pinned (OpenSpec.ofChange shapeAllSpec)

/-- ITS FALSE NEIGHBOUR: 'it returns false'. Refute it at one input. -/
def shapeAllWrong : ChangeSpec := { name := "shapeAll", fn := fun _ => fun
  | [d1, d2] => { results := [.lit (.bool false)], args := [d1, d2] }
  | _ => none }
def ShapeAllWrongFalsely : Prop := shapeAllRow.holds Try.pinned (OpenSpec.ofChange shapeAllWrong)

/-- 'epicyclelaw08.ViewChecks': WHATEVER THE INPUT: true; the input reads as it did. -/
def viewChecksSpec : ChangeSpec := { name := "viewChecks", fn := fun _ => fun
  | [d1, d2] => { results := [.lit (.bool true)], args := [d1, d2] }
  | _ => none }
def viewChecksRow : OpenClaim := { program := "ytdaajncfhcpecaa", sum := "0a85cec6f64be9527b868711e1140a81249a6a49a0a90d6d3d90bbedc652c7bb", func := "epicycle/epicyclelaw08.ViewChecks", spec := "viewChecks", unfollowed := true, recurses := true, apart := false }
def ViewChecksSaid : Prop := viewChecksRow.holds Try.pinned (OpenSpec.ofChange viewChecksSpec)

/-- ITS FALSE NEIGHBOUR: 'it returns false'. Refute it at one input. -/
def viewChecksWrong : ChangeSpec := { name := "viewChecks", fn := fun _ => fun
  | [d1, d2] => { results := [.lit (.bool false)], args := [d1, d2] }
  | _ => none }
def ViewChecksWrongFalsely : Prop := viewChecksRow.holds Try.pinned (OpenSpec.ofChange viewChecksWrong)

/-- 'epicyclelaw08.ViewDense': WHATEVER THE INPUT: true; the input reads as it did. -/
def viewDenseSpec : ChangeSpec := { name := "viewDense", fn := fun _ => fun
  | [d] => { results := [.lit (.bool true)], args := [d] }
  | _ => none }
def viewDenseRow : OpenClaim := { program := "ytdaajncfhcpecaa", sum := "0a85cec6f64be9527b868711e1140a81249a6a49a0a90d6d3d90bbedc652c7bb", func := "epicycle/epicyclelaw08.ViewDense", spec := "viewDense", unfollowed := true, recurses := true, apart := false }
def ViewDenseSaid : Prop := viewDenseRow.holds Try.pinned (OpenSpec.ofChange viewDenseSpec)

/-- ITS FALSE NEIGHBOUR: 'it returns false'. Refute it at one input. -/
def viewDenseWrong : ChangeSpec := { name := "viewDense", fn := fun _ => fun
  | [d] => { results := [.lit (.bool false)], args := [d] }
  | _ => none }
def ViewDenseWrongFalsely : Prop := viewDenseRow.holds Try.pinned (OpenSpec.ofChange viewDenseWrong)

/-- 'epicyclelaw08.ViewPermutes': WHATEVER THE INPUT: true; the input reads as it did. -/
def viewPermutesSpec : ChangeSpec := { name := "viewPermutes", fn := fun _ => fun
  | [d1, d2] => { results := [.lit (.bool true)], args := [d1, d2] }
  | _ => none }
def viewPermutesRow : OpenClaim := { program := "ytdaajncfhcpecaa", sum := "0a85cec6f64be9527b868711e1140a81249a6a49a0a90d6d3d90bbedc652c7bb", func := "epicycle/epicyclelaw08.ViewPermutes", spec := "viewPermutes", unfollowed := true, recurses := true, apart := false }
def ViewPermutesSaid : Prop := viewPermutesRow.holds Try.pinned (OpenSpec.ofChange viewPermutesSpec)

/-- ITS FALSE NEIGHBOUR: 'it returns false'. Refute it at one input. -/
def viewPermutesWrong : ChangeSpec := { name := "viewPermutes", fn := fun _ => fun
  | [d1, d2] => { results := [.lit (.bool false)], args := [d1, d2] }
  | _ => none }
def ViewPermutesWrongFalsely : Prop := viewPermutesRow.holds Try.pinned (OpenSpec.ofChange viewPermutesWrong)

/-- 'epicyclelaw08.ViewTurns': WHATEVER THE INPUT: true; the input reads as it did. -/
def viewTurnsSpec : ChangeSpec := { name := "viewTurns", fn := fun _ => fun
  | [d1, d2] => { results := [.lit (.bool true)], args := [d1, d2] }
  | _ => none }
def viewTurnsRow : OpenClaim := { program := "ytdaajncfhcpecaa", sum := "0a85cec6f64be9527b868711e1140a81249a6a49a0a90d6d3d90bbedc652c7bb", func := "epicycle/epicyclelaw08.ViewTurns", spec := "viewTurns", unfollowed := true, recurses := true, apart := false }
def ViewTurnsSaid : Prop := viewTurnsRow.holds Try.pinned (OpenSpec.ofChange viewTurnsSpec)

/-- ITS FALSE NEIGHBOUR: 'it returns false'. Refute it at one input. -/
def viewTurnsWrong : ChangeSpec := { name := "viewTurns", fn := fun _ => fun
  | [d1, d2] => { results := [.lit (.bool false)], args := [d1, d2] }
  | _ => none }
def ViewTurnsWrongFalsely : Prop := viewTurnsRow.holds Try.pinned (OpenSpec.ofChange viewTurnsWrong)

/-- 'epicyclelaw08.ViewMeets': WHATEVER THE INPUT: true; the input reads as it did. -/
def viewMeetsSpec : ChangeSpec := { name := "viewMeets", fn := fun _ => fun
  | [d1, d2] => { results := [.lit (.bool true)], args := [d1, d2] }
  | _ => none }
def viewMeetsRow : OpenClaim := { program := "ytdaajncfhcpecaa", sum := "0a85cec6f64be9527b868711e1140a81249a6a49a0a90d6d3d90bbedc652c7bb", func := "epicycle/epicyclelaw08.ViewMeets", spec := "viewMeets", unfollowed := true, recurses := true, apart := false }
def ViewMeetsSaid : Prop := viewMeetsRow.holds Try.pinned (OpenSpec.ofChange viewMeetsSpec)

/-- ITS FALSE NEIGHBOUR: 'it returns false'. Refute it at one input. -/
def viewMeetsWrong : ChangeSpec := { name := "viewMeets", fn := fun _ => fun
  | [d1, d2] => { results := [.lit (.bool false)], args := [d1, d2] }
  | _ => none }
def ViewMeetsWrongFalsely : Prop := viewMeetsRow.holds Try.pinned (OpenSpec.ofChange viewMeetsWrong)

/-- 'epicyclelaw08.ViewPicks': WHATEVER THE INPUT: true; the input reads as it did. -/
def viewPicksSpec : ChangeSpec := { name := "viewPicks", fn := fun _ => fun
  | [d1, d2, d3] => { results := [.lit (.bool true)], args := [d1, d2, d3] }
  | _ => none }
def viewPicksRow : OpenClaim := { program := "ytdaajncfhcpecaa", sum := "0a85cec6f64be9527b868711e1140a81249a6a49a0a90d6d3d90bbedc652c7bb", func := "epicycle/epicyclelaw08.ViewPicks", spec := "viewPicks", unfollowed := true, recurses := true, apart := false }
def ViewPicksSaid : Prop := viewPicksRow.holds Try.pinned (OpenSpec.ofChange viewPicksSpec)

/-- ITS FALSE NEIGHBOUR: 'it returns false'. Refute it at one input. -/
def viewPicksWrong : ChangeSpec := { name := "viewPicks", fn := fun _ => fun
  | [d1, d2, d3] => { results := [.lit (.bool false)], args := [d1, d2, d3] }
  | _ => none }
def ViewPicksWrongFalsely : Prop := viewPicksRow.holds Try.pinned (OpenSpec.ofChange viewPicksWrong)

/-- 'epicyclelaw08.ViewSlices': WHATEVER THE INPUT: true; the input reads as it did. -/
def viewSlicesSpec : ChangeSpec := { name := "viewSlices", fn := fun _ => fun
  | [d1, d2, d3, d4, d5] => { results := [.lit (.bool true)], args := [d1, d2, d3, d4, d5] }
  | _ => none }
def viewSlicesRow : OpenClaim := { program := "ytdaajncfhcpecaa", sum := "0a85cec6f64be9527b868711e1140a81249a6a49a0a90d6d3d90bbedc652c7bb", func := "epicycle/epicyclelaw08.ViewSlices", spec := "viewSlices", unfollowed := true, recurses := true, apart := false }
def ViewSlicesSaid : Prop := viewSlicesRow.holds Try.pinned (OpenSpec.ofChange viewSlicesSpec)

/-- ITS FALSE NEIGHBOUR: 'it returns false'. Refute it at one input. -/
def viewSlicesWrong : ChangeSpec := { name := "viewSlices", fn := fun _ => fun
  | [d1, d2, d3, d4, d5] => { results := [.lit (.bool false)], args := [d1, d2, d3, d4, d5] }
  | _ => none }
def ViewSlicesWrongFalsely : Prop := viewSlicesRow.holds Try.pinned (OpenSpec.ofChange viewSlicesWrong)

/- THE SECOND FORM. 'bulk': how many values and letters a reading holds, each counted each time it is reached (what is shared counts as often as it is met; a slice's spare places count too). A statement '..UptoSaid' is the law's where the arguments, and the package variables that the reading takes, are together of bulk at most 1048576: NARROWER than '..Said'. Prove '..Said' where nothing that the law and all that it calls make is longer than what came in: it says more and counts as full. Else prove '..UptoSaid'. A law counts once. -/
mutual
def uptoBulk {H : Type} : DataW H → Nat
  | .lit (.string bytes) => bytes.length + 1
  | .lit _ => 1
  | .nil => 1
  | .ptr d => uptoBulk d + 1
  | .slice elems spare => uptoBulkAll elems + uptoBulkAll spare + 1
  | .agg parts => uptoBulkAll parts + 1
  | .iface _ d => uptoBulk d + 1
  | .map entries => uptoBulkEntries entries + 1
  | .held _ => 1
def uptoBulkAll {H : Type} : List (DataW H) → Nat
  | [] => 0
  | d :: r => uptoBulk d + uptoBulkAll r
def uptoBulkEntries {H : Type} : List (Lit × DataW H) → Nat
  | [] => 0
  | x :: r => uptoBulkEntry x + uptoBulkEntries r
def uptoBulkEntry {H : Type} : Lit × DataW H → Nat
  | (.string bytes, d) => bytes.length + uptoBulk d + 1
  | (_, d) => uptoBulk d + 1
 end
def uptoSmall : (H : Type) → List (DataW H) → Bool := fun _ ds => decide (uptoBulkAll ds ≤ 1048576)
def OpenSpec.upto (s : _root_.Go.ChangeSpec) : _root_.Go.OpenSpec := { _root_.Go.OpenSpec.ofChange s with cond := some uptoSmall }

/-- 'epicyclelaw07.ShapeSizes', WHERE WHAT IT READS IS OF BULK AT MOST 1048576: true; the input reads as it did. -/
def shapeSizesUptoRow : OpenClaim := { program := "ytdaajncfhcpecaa", sum := "0a85cec6f64be9527b868711e1140a81249a6a49a0a90d6d3d90bbedc652c7bb", func := "epicycle/epicyclelaw07.ShapeSizes", spec := "shapeSizes", apart := false, narrowed := true }
def ShapeSizesUptoSaid : Prop := shapeSizesUptoRow.holds Try.pinned (OpenSpec.upto shapeSizesSpec)

/-- 'epicyclelaw07.ShapeNumbers', WHERE WHAT IT READS IS OF BULK AT MOST 1048576: true; the input reads as it did. -/
def shapeNumbersUptoRow : OpenClaim := { program := "ytdaajncfhcpecaa", sum := "0a85cec6f64be9527b868711e1140a81249a6a49a0a90d6d3d90bbedc652c7bb", func := "epicycle/epicyclelaw07.ShapeNumbers", spec := "shapeNumbers", apart := false, narrowed := true }
def ShapeNumbersUptoSaid : Prop := shapeNumbersUptoRow.holds Try.pinned (OpenSpec.upto shapeNumbersSpec)

/-- 'epicyclelaw07.ShapeOnce', WHERE WHAT IT READS IS OF BULK AT MOST 1048576: true; the input reads as it did. -/
def shapeOnceUptoRow : OpenClaim := { program := "ytdaajncfhcpecaa", sum := "0a85cec6f64be9527b868711e1140a81249a6a49a0a90d6d3d90bbedc652c7bb", func := "epicycle/epicyclelaw07.ShapeOnce", spec := "shapeOnce", apart := false, narrowed := true }
def ShapeOnceUptoSaid : Prop := shapeOnceUptoRow.holds Try.pinned (OpenSpec.upto shapeOnceSpec)

/-- 'epicyclelaw07.ShapeAll', WHERE WHAT IT READS IS OF BULK AT MOST 1048576: true; the input reads as it did. -/
def shapeAllUptoRow : OpenClaim := { program := "ytdaajncfhcpecaa", sum := "0a85cec6f64be9527b868711e1140a81249a6a49a0a90d6d3d90bbedc652c7bb", func := "epicycle/epicyclelaw07.ShapeAll", spec := "shapeAll", unfollowed := true, recurses := true, apart := false, narrowed := true }
def ShapeAllUptoSaid : Prop := shapeAllUptoRow.holds Try.pinned (OpenSpec.upto shapeAllSpec)

/-- 'epicyclelaw08.ViewChecks', WHERE WHAT IT READS IS OF BULK AT MOST 1048576: true; the input reads as it did. -/
def viewChecksUptoRow : OpenClaim := { program := "ytdaajncfhcpecaa", sum := "0a85cec6f64be9527b868711e1140a81249a6a49a0a90d6d3d90bbedc652c7bb", func := "epicycle/epicyclelaw08.ViewChecks", spec := "viewChecks", unfollowed := true, recurses := true, apart := false, narrowed := true }
def ViewChecksUptoSaid : Prop := viewChecksUptoRow.holds Try.pinned (OpenSpec.upto viewChecksSpec)

/-- 'epicyclelaw08.ViewDense', WHERE WHAT IT READS IS OF BULK AT MOST 1048576: true; the input reads as it did. -/
def viewDenseUptoRow : OpenClaim := { program := "ytdaajncfhcpecaa", sum := "0a85cec6f64be9527b868711e1140a81249a6a49a0a90d6d3d90bbedc652c7bb", func := "epicycle/epicyclelaw08.ViewDense", spec := "viewDense", unfollowed := true, recurses := true, apart := false, narrowed := true }
def ViewDenseUptoSaid : Prop := viewDenseUptoRow.holds Try.pinned (OpenSpec.upto viewDenseSpec)

/-- 'epicyclelaw08.ViewPermutes', WHERE WHAT IT READS IS OF BULK AT MOST 1048576: true; the input reads as it did. -/
def viewPermutesUptoRow : OpenClaim := { program := "ytdaajncfhcpecaa", sum := "0a85cec6f64be9527b868711e1140a81249a6a49a0a90d6d3d90bbedc652c7bb", func := "epicycle/epicyclelaw08.ViewPermutes", spec := "viewPermutes", unfollowed := true, recurses := true, apart := false, narrowed := true }
def ViewPermutesUptoSaid : Prop := viewPermutesUptoRow.holds Try.pinned (OpenSpec.upto viewPermutesSpec)

/-- 'epicyclelaw08.ViewTurns', WHERE WHAT IT READS IS OF BULK AT MOST 1048576: true; the input reads as it did. -/
def viewTurnsUptoRow : OpenClaim := { program := "ytdaajncfhcpecaa", sum := "0a85cec6f64be9527b868711e1140a81249a6a49a0a90d6d3d90bbedc652c7bb", func := "epicycle/epicyclelaw08.ViewTurns", spec := "viewTurns", unfollowed := true, recurses := true, apart := false, narrowed := true }
def ViewTurnsUptoSaid : Prop := viewTurnsUptoRow.holds Try.pinned (OpenSpec.upto viewTurnsSpec)

/-- 'epicyclelaw08.ViewMeets', WHERE WHAT IT READS IS OF BULK AT MOST 1048576: true; the input reads as it did. -/
def viewMeetsUptoRow : OpenClaim := { program := "ytdaajncfhcpecaa", sum := "0a85cec6f64be9527b868711e1140a81249a6a49a0a90d6d3d90bbedc652c7bb", func := "epicycle/epicyclelaw08.ViewMeets", spec := "viewMeets", unfollowed := true, recurses := true, apart := false, narrowed := true }
def ViewMeetsUptoSaid : Prop := viewMeetsUptoRow.holds Try.pinned (OpenSpec.upto viewMeetsSpec)

/-- 'epicyclelaw08.ViewPicks', WHERE WHAT IT READS IS OF BULK AT MOST 1048576: true; the input reads as it did. -/
def viewPicksUptoRow : OpenClaim := { program := "ytdaajncfhcpecaa", sum := "0a85cec6f64be9527b868711e1140a81249a6a49a0a90d6d3d90bbedc652c7bb", func := "epicycle/epicyclelaw08.ViewPicks", spec := "viewPicks", unfollowed := true, recurses := true, apart := false, narrowed := true }
def ViewPicksUptoSaid : Prop := viewPicksUptoRow.holds Try.pinned (OpenSpec.upto viewPicksSpec)

/-- 'epicyclelaw08.ViewSlices', WHERE WHAT IT READS IS OF BULK AT MOST 1048576: true; the input reads as it did. -/
def viewSlicesUptoRow : OpenClaim := { program := "ytdaajncfhcpecaa", sum := "0a85cec6f64be9527b868711e1140a81249a6a49a0a90d6d3d90bbedc652c7bb", func := "epicycle/epicyclelaw08.ViewSlices", spec := "viewSlices", unfollowed := true, recurses := true, apart := false, narrowed := true }
def ViewSlicesUptoSaid : Prop := viewSlicesUptoRow.holds Try.pinned (OpenSpec.upto viewSlicesSpec)

end Rows
end Go.Proofs.Ytdaajncfhcpecaa
