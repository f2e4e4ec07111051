/-
  No cell of these rows narrows 'for every input' (looked for: loops, veiled, ifaces, maps, wideKeys, modest, calm, conditions, laid).
  DERIVED. THE GIVEN ROWS OF THIS SEAT. 5 by the template 'for every input the law returns true; each argument reads behind the call as it read before'; 0 by the template 'total and deterministic' (their statements: YtmofdjddjkjogaaTotals.lean).
  GIVEN WITH THE SEED: the statements are not yours to turn. If you find one false, say at which input.
  Laid BY PROGRAM, IN A SANDBOX (cutbox-rows.mjs): the forced cells as the released guide's own fill.sh prints them over the translation d1c611daf9499b68… (all of the seat's roots in one cut). By AI agents, Wed Nov 11 2026. No macro, syntax, notation, axiom, sorry.
-/
import Derived.Test.YtmofdjddjkjogaaChecked
import GoSem.Claim
import GoSem.ClaimJoined
import GoSem.ClaimMapViews
import Derived.JoinedTies
import Derived.KernelRfl
namespace Go.Proofs.Ytmofdjddjkjogaa
/- THE CELL 'sum', in the pinned program and in every row, IS THE sha256 OF THE DUMP (.gsa) THAT YtmofdjddjkjogaaProg.lean LOADS. Nothing in Lean hashes anything: it is a label: what it is worth is what the hold of that sum in a sandbox is worth. -/
noncomputable def Try.pinned : Pinned := { name := "ytmofdjddjkjogaa", sum := "d1c611daf9499b68a5d0941876dfa0a5f85abebfa76d189513deaacc9b6b1976", checked := Try.checked }
namespace Rows
def none {H : Type} : Left H := { results := [], args := [] }

/-- 'epicyclelaw09.DigitsBack': WHATEVER THE INPUT: true; the input reads as it did. -/
def digitsBackSpec : ChangeSpec := { name := "digitsBack", fn := fun _ => fun
  | [d1, d2] => { results := [.lit (.bool true)], args := [d1, d2] }
  | _ => none }
def digitsBackRow : OpenClaim := { program := "ytmofdjddjkjogaa", sum := "d1c611daf9499b68a5d0941876dfa0a5f85abebfa76d189513deaacc9b6b1976", func := "epicycle/epicyclelaw09.DigitsBack", spec := "digitsBack", apart := false }
def DigitsBackSaid : Prop := digitsBackRow.holds Try.pinned (OpenSpec.ofChange digitsBackSpec)

/-- ITS FALSE NEIGHBOUR: 'it returns false'. Refute it at one input. -/
def digitsBackWrong : ChangeSpec := { name := "digitsBack", fn := fun _ => fun
  | [d1, d2] => { results := [.lit (.bool false)], args := [d1, d2] }
  | _ => none }
def DigitsBackWrongFalsely : Prop := digitsBackRow.holds Try.pinned (OpenSpec.ofChange digitsBackWrong)

/-- 'epicyclelaw09.DigitsBits': WHATEVER THE INPUT: true; the input reads as it did. -/
def digitsBitsSpec : ChangeSpec := { name := "digitsBits", fn := fun _ => fun
  | [d1, d2] => { results := [.lit (.bool true)], args := [d1, d2] }
  | _ => none }
def digitsBitsRow : OpenClaim := { program := "ytmofdjddjkjogaa", sum := "d1c611daf9499b68a5d0941876dfa0a5f85abebfa76d189513deaacc9b6b1976", func := "epicycle/epicyclelaw09.DigitsBits", spec := "digitsBits", apart := false }
def DigitsBitsSaid : Prop := digitsBitsRow.holds Try.pinned (OpenSpec.ofChange digitsBitsSpec)

/-- ITS FALSE NEIGHBOUR: 'it returns false'. Refute it at one input. -/
def digitsBitsWrong : ChangeSpec := { name := "digitsBits", fn := fun _ => fun
  | [d1, d2] => { results := [.lit (.bool false)], args := [d1, d2] }
  | _ => none }
def DigitsBitsWrongFalsely : Prop := digitsBitsRow.holds Try.pinned (OpenSpec.ofChange digitsBitsWrong)

/-- 'epicyclelaw09.DigitsTurn': WHATEVER THE INPUT: true; the input reads as it did. -/
def digitsTurnSpec : ChangeSpec := { name := "digitsTurn", fn := fun _ => fun
  | [d1, d2] => { results := [.lit (.bool true)], args := [d1, d2] }
  | _ => none }
def digitsTurnRow : OpenClaim := { program := "ytmofdjddjkjogaa", sum := "d1c611daf9499b68a5d0941876dfa0a5f85abebfa76d189513deaacc9b6b1976", func := "epicycle/epicyclelaw09.DigitsTurn", spec := "digitsTurn", apart := false }
def DigitsTurnSaid : Prop := digitsTurnRow.holds Try.pinned (OpenSpec.ofChange digitsTurnSpec)

/-- ITS FALSE NEIGHBOUR: 'it returns false'. Refute it at one input. -/
def digitsTurnWrong : ChangeSpec := { name := "digitsTurn", fn := fun _ => fun
  | [d1, d2] => { results := [.lit (.bool false)], args := [d1, d2] }
  | _ => none }
def DigitsTurnWrongFalsely : Prop := digitsTurnRow.holds Try.pinned (OpenSpec.ofChange digitsTurnWrong)

/-- 'epicyclelaw09.DigitsOrder': WHATEVER THE INPUT: true; the input reads as it did. -/
def digitsOrderSpec : ChangeSpec := { name := "digitsOrder", fn := fun _ => fun
  | [d1, d2] => { results := [.lit (.bool true)], args := [d1, d2] }
  | _ => none }
def digitsOrderRow : OpenClaim := { program := "ytmofdjddjkjogaa", sum := "d1c611daf9499b68a5d0941876dfa0a5f85abebfa76d189513deaacc9b6b1976", func := "epicycle/epicyclelaw09.DigitsOrder", spec := "digitsOrder", apart := false }
def DigitsOrderSaid : Prop := digitsOrderRow.holds Try.pinned (OpenSpec.ofChange digitsOrderSpec)

/-- ITS FALSE NEIGHBOUR: 'it returns false'. Refute it at one input. -/
def digitsOrderWrong : ChangeSpec := { name := "digitsOrder", fn := fun _ => fun
  | [d1, d2] => { results := [.lit (.bool false)], args := [d1, d2] }
  | _ => none }
def DigitsOrderWrongFalsely : Prop := digitsOrderRow.holds Try.pinned (OpenSpec.ofChange digitsOrderWrong)

/-- 'epicyclelaw09.DigitsSwap': WHATEVER THE INPUT: true; the input reads as it did. -/
def digitsSwapSpec : ChangeSpec := { name := "digitsSwap", fn := fun _ => fun
  | [d1, d2] => { results := [.lit (.bool true)], args := [d1, d2] }
  | _ => none }
def digitsSwapRow : OpenClaim := { program := "ytmofdjddjkjogaa", sum := "d1c611daf9499b68a5d0941876dfa0a5f85abebfa76d189513deaacc9b6b1976", func := "epicycle/epicyclelaw09.DigitsSwap", spec := "digitsSwap", apart := false }
def DigitsSwapSaid : Prop := digitsSwapRow.holds Try.pinned (OpenSpec.ofChange digitsSwapSpec)

/-- ITS FALSE NEIGHBOUR: 'it returns false'. Refute it at one input. -/
def digitsSwapWrong : ChangeSpec := { name := "digitsSwap", fn := fun _ => fun
  | [d1, d2] => { results := [.lit (.bool false)], args := [d1, d2] }
  | _ => none }
def DigitsSwapWrongFalsely : Prop := digitsSwapRow.holds Try.pinned (OpenSpec.ofChange digitsSwapWrong)

/- THE SECOND FORM. 'bulk': how many values and letters a reading holds, each counted each time it is reached (what is shared counts as often as it is met; a slice's spare places count too). A statement '..UptoSaid' is the law's where the arguments, and the package variables that the reading takes, are together of bulk at most 1048576: NARROWER than '..Said'. Prove '..Said' where nothing that the law and all that it calls make is longer than what came in: it says more and counts as full. Else prove '..UptoSaid'. A law counts once. -/
mutual
def uptoBulk {H : Type} : DataW H → Nat
  | .lit (.string bytes) => bytes.length + 1
  | .lit _ => 1
  | .nil => 1
  | .ptr d => uptoBulk d + 1
  | .slice elems spare => uptoBulkAll elems + uptoBulkAll spare + 1
  | .agg parts => uptoBulkAll parts + 1
  | .iface _ d => uptoBulk d + 1
  | .map entries => uptoBulkEntries entries + 1
  | .held _ => 1
def uptoBulkAll {H : Type} : List (DataW H) → Nat
  | [] => 0
  | d :: r => uptoBulk d + uptoBulkAll r
def uptoBulkEntries {H : Type} : List (Lit × DataW H) → Nat
  | [] => 0
  | x :: r => uptoBulkEntry x + uptoBulkEntries r
def uptoBulkEntry {H : Type} : Lit × DataW H → Nat
  | (.string bytes, d) => bytes.length + uptoBulk d + 1
  | (_, d) => uptoBulk d + 1
 end
def uptoSmall : (H : Type) → List (DataW H) → Bool := fun _ ds => decide (uptoBulkAll ds ≤ 1048576)
def OpenSpec.upto (s : _root_.Go.ChangeSpec) : _root_.Go.OpenSpec := { _root_.Go.OpenSpec.ofChange s with cond := some uptoSmall }

/-- 'epicyclelaw09.DigitsBack', WHERE WHAT IT READS IS OF BULK AT MOST 1048576: true; the input reads as it did. -/
def digitsBackUptoRow : OpenClaim := { program := "ytmofdjddjkjogaa", sum := "d1c611daf9499b68a5d0941876dfa0a5f85abebfa76d189513deaacc9b6b1976", func := "epicycle/epicyclelaw09.DigitsBack", spec := "digitsBack", apart := false, narrowed := true }
def DigitsBackUptoSaid : Prop := digitsBackUptoRow.holds Try.pinned (OpenSpec.upto digitsBackSpec)

/-- 'epicyclelaw09.DigitsBits', WHERE WHAT IT READS IS OF BULK AT MOST 1048576: true; the input reads as it did. -/
def digitsBitsUptoRow : OpenClaim := { program := "ytmofdjddjkjogaa", sum := "d1c611daf9499b68a5d0941876dfa0a5f85abebfa76d189513deaacc9b6b1976", func := "epicycle/epicyclelaw09.DigitsBits", spec := "digitsBits", apart := false, narrowed := true }
def DigitsBitsUptoSaid : Prop := digitsBitsUptoRow.holds Try.pinned (OpenSpec.upto digitsBitsSpec)

/-- 'epicyclelaw09.DigitsTurn', WHERE WHAT IT READS IS OF BULK AT MOST 1048576: true; the input reads as it did. -/
def digitsTurnUptoRow : OpenClaim := { program := "ytmofdjddjkjogaa", sum := "d1c611daf9499b68a5d0941876dfa0a5f85abebfa76d189513deaacc9b6b1976", func := "epicycle/epicyclelaw09.DigitsTurn", spec := "digitsTurn", apart := false, narrowed := true }
def DigitsTurnUptoSaid : Prop := digitsTurnUptoRow.holds Try.pinned (OpenSpec.upto digitsTurnSpec)

/-- 'epicyclelaw09.DigitsOrder', WHERE WHAT IT READS IS OF BULK AT MOST 1048576: true; the input reads as it did. -/
def digitsOrderUptoRow : OpenClaim := { program := "ytmofdjddjkjogaa", sum := "d1c611daf9499b68a5d0941876dfa0a5f85abebfa76d189513deaacc9b6b1976", func := "epicycle/epicyclelaw09.DigitsOrder", spec := "digitsOrder", apart := false, narrowed := true }
def DigitsOrderUptoSaid : Prop := digitsOrderUptoRow.holds Try.pinned (OpenSpec.upto digitsOrderSpec)

/-- 'epicyclelaw09.DigitsSwap', WHERE WHAT IT READS IS OF BULK AT MOST 1048576: true; the input reads as it did. -/
def digitsSwapUptoRow : OpenClaim := { program := "ytmofdjddjkjogaa", sum := "d1c611daf9499b68a5d0941876dfa0a5f85abebfa76d189513deaacc9b6b1976", func := "epicycle/epicyclelaw09.DigitsSwap", spec := "digitsSwap", apart := false, narrowed := true }
def DigitsSwapUptoSaid : Prop := digitsSwapUptoRow.holds Try.pinned (OpenSpec.upto digitsSwapSpec)

end Rows
end Go.Proofs.Ytmofdjddjkjogaa
