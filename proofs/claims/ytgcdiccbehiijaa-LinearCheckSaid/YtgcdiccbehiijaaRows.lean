/-
  No cell of these rows narrows 'for every input' (looked for: loops, veiled, ifaces, maps, wideKeys, modest, calm, conditions, laid).
  DERIVED. THE GIVEN ROWS OF THIS SEAT. 6 by the template 'for every input the law returns true; each argument reads behind the call as it read before'; 0 by the template 'total and deterministic' (their statements: YtgcdiccbehiijaaTotals.lean).
  GIVEN WITH THE SEED: the statements are not yours to turn. If you find one false, say at which input.
  Laid BY PROGRAM, IN A SANDBOX (cutbox-rows.mjs): the forced cells as the released guide's own fill.sh prints them over the translation 7072a7311d4844ab… (all of the seat's roots in one cut). By AI agents, Wed Nov 11 2026. No macro, syntax, notation, axiom, sorry.
-/
import Derived.Test.YtgcdiccbehiijaaChecked
import GoSem.Claim
import GoSem.ClaimJoined
import GoSem.ClaimMapViews
import Derived.JoinedTies
import Derived.KernelRfl
namespace Go.Proofs.Ytgcdiccbehiijaa
/- THE CELL 'sum', in the pinned program and in every row, IS THE sha256 OF THE DUMP (.gsa) THAT YtgcdiccbehiijaaProg.lean LOADS. Nothing in Lean hashes anything: it is a label: what it is worth is what the hold of that sum in a sandbox is worth. -/
noncomputable def Try.pinned : Pinned := { name := "ytgcdiccbehiijaa", sum := "7072a7311d4844ab3bd4ea86d926563e2a19d43b45e051b44a76ea62a6205421", checked := Try.checked }
namespace Rows
def none {H : Type} : Left H := { results := [], args := [] }

/-- 'cinnabarlaw26.LinearSolve': WHATEVER THE INPUT: true; the input reads as it did. -/
def linearSolveSpec : ChangeSpec := { name := "linearSolve", fn := fun _ => fun
  | [d] => { results := [.lit (.bool true)], args := [d] }
  | _ => none }
def linearSolveRow : OpenClaim := { program := "ytgcdiccbehiijaa", sum := "7072a7311d4844ab3bd4ea86d926563e2a19d43b45e051b44a76ea62a6205421", func := "cinnabar/cinnabarlaw26.LinearSolve", spec := "linearSolve", inPlace := ["math/bits.Add64", "math/bits.Sub64"], unfollowed := true, recurses := true, named := ["math/bits.divideError", "math/bits.overflowError"], apart := false }
def LinearSolveSaid : Prop := linearSolveRow.holds Try.pinned (OpenSpec.ofChange linearSolveSpec)

/-- ITS FALSE NEIGHBOUR: 'it returns false'. Refute it at one input. -/
def linearSolveWrong : ChangeSpec := { name := "linearSolve", fn := fun _ => fun
  | [d] => { results := [.lit (.bool false)], args := [d] }
  | _ => none }
def LinearSolveWrongFalsely : Prop := linearSolveRow.holds Try.pinned (OpenSpec.ofChange linearSolveWrong)

/-- 'cinnabarlaw26.LinearMore': WHATEVER THE INPUT: true; the input reads as it did. -/
def linearMoreSpec : ChangeSpec := { name := "linearMore", fn := fun _ => fun
  | [d1, d2] => { results := [.lit (.bool true)], args := [d1, d2] }
  | _ => none }
def linearMoreRow : OpenClaim := { program := "ytgcdiccbehiijaa", sum := "7072a7311d4844ab3bd4ea86d926563e2a19d43b45e051b44a76ea62a6205421", func := "cinnabar/cinnabarlaw26.LinearMore", spec := "linearMore", inPlace := ["math/bits.Add64", "math/bits.Sub64"], unfollowed := true, recurses := true, named := ["math/bits.divideError", "math/bits.overflowError"], apart := false }
def LinearMoreSaid : Prop := linearMoreRow.holds Try.pinned (OpenSpec.ofChange linearMoreSpec)

/-- ITS FALSE NEIGHBOUR: 'it returns false'. Refute it at one input. -/
def linearMoreWrong : ChangeSpec := { name := "linearMore", fn := fun _ => fun
  | [d1, d2] => { results := [.lit (.bool false)], args := [d1, d2] }
  | _ => none }
def LinearMoreWrongFalsely : Prop := linearMoreRow.holds Try.pinned (OpenSpec.ofChange linearMoreWrong)

/-- 'cinnabarlaw26.LinearFields': WHATEVER THE INPUT: true; the input reads as it did. -/
def linearFieldsSpec : ChangeSpec := { name := "linearFields", fn := fun _ => fun
  | [d1, d2, d3] => { results := [.lit (.bool true)], args := [d1, d2, d3] }
  | _ => none }
def linearFieldsRow : OpenClaim := { program := "ytgcdiccbehiijaa", sum := "7072a7311d4844ab3bd4ea86d926563e2a19d43b45e051b44a76ea62a6205421", func := "cinnabar/cinnabarlaw26.LinearFields", spec := "linearFields", inPlace := ["math/bits.Add64", "math/bits.Sub64"], unfollowed := true, recurses := true, named := ["math/bits.divideError", "math/bits.overflowError"], apart := false }
def LinearFieldsSaid : Prop := linearFieldsRow.holds Try.pinned (OpenSpec.ofChange linearFieldsSpec)

/-- ITS FALSE NEIGHBOUR: 'it returns false'. Refute it at one input. -/
def linearFieldsWrong : ChangeSpec := { name := "linearFields", fn := fun _ => fun
  | [d1, d2, d3] => { results := [.lit (.bool false)], args := [d1, d2, d3] }
  | _ => none }
def LinearFieldsWrongFalsely : Prop := linearFieldsRow.holds Try.pinned (OpenSpec.ofChange linearFieldsWrong)

/-- 'cinnabarlaw26.LinearRats': WHATEVER THE INPUT: true; the input reads as it did. -/
def linearRatsSpec : ChangeSpec := { name := "linearRats", fn := fun _ => fun
  | [d1, d2, d3] => { results := [.lit (.bool true)], args := [d1, d2, d3] }
  | _ => none }
def linearRatsRow : OpenClaim := { program := "ytgcdiccbehiijaa", sum := "7072a7311d4844ab3bd4ea86d926563e2a19d43b45e051b44a76ea62a6205421", func := "cinnabar/cinnabarlaw26.LinearRats", spec := "linearRats", inPlace := ["math/bits.Add64", "math/bits.Sub64"], unfollowed := true, recurses := true, named := ["math/bits.divideError", "math/bits.overflowError"], apart := false }
def LinearRatsSaid : Prop := linearRatsRow.holds Try.pinned (OpenSpec.ofChange linearRatsSpec)

/-- ITS FALSE NEIGHBOUR: 'it returns false'. Refute it at one input. -/
def linearRatsWrong : ChangeSpec := { name := "linearRats", fn := fun _ => fun
  | [d1, d2, d3] => { results := [.lit (.bool false)], args := [d1, d2, d3] }
  | _ => none }
def LinearRatsWrongFalsely : Prop := linearRatsRow.holds Try.pinned (OpenSpec.ofChange linearRatsWrong)

/-- 'cinnabarlaw26.LinearCheck': WHATEVER THE INPUT: true; the input reads as it did. -/
def linearCheckSpec : ChangeSpec := { name := "linearCheck", fn := fun _ => fun
  | [d1, d2, d3] => { results := [.lit (.bool true)], args := [d1, d2, d3] }
  | _ => none }
def linearCheckRow : OpenClaim := { program := "ytgcdiccbehiijaa", sum := "7072a7311d4844ab3bd4ea86d926563e2a19d43b45e051b44a76ea62a6205421", func := "cinnabar/cinnabarlaw26.LinearCheck", spec := "linearCheck", inPlace := ["math/bits.Add64", "math/bits.Sub64"], unfollowed := true, recurses := true, named := ["math/bits.divideError", "math/bits.overflowError"], apart := false }
def LinearCheckSaid : Prop := linearCheckRow.holds Try.pinned (OpenSpec.ofChange linearCheckSpec)

/-- ITS FALSE NEIGHBOUR: 'it returns false'. Refute it at one input. -/
def linearCheckWrong : ChangeSpec := { name := "linearCheck", fn := fun _ => fun
  | [d1, d2, d3] => { results := [.lit (.bool false)], args := [d1, d2, d3] }
  | _ => none }
def LinearCheckWrongFalsely : Prop := linearCheckRow.holds Try.pinned (OpenSpec.ofChange linearCheckWrong)

/-- 'cinnabarlaw26.LinearNever': WHATEVER THE INPUT: true; the input reads as it did. -/
def linearNeverSpec : ChangeSpec := { name := "linearNever", fn := fun _ => fun
  | [d1, d2, d3] => { results := [.lit (.bool true)], args := [d1, d2, d3] }
  | _ => none }
def linearNeverRow : OpenClaim := { program := "ytgcdiccbehiijaa", sum := "7072a7311d4844ab3bd4ea86d926563e2a19d43b45e051b44a76ea62a6205421", func := "cinnabar/cinnabarlaw26.LinearNever", spec := "linearNever", inPlace := ["math/bits.Add64", "math/bits.Sub64"], unfollowed := true, recurses := true, named := ["math/bits.divideError", "math/bits.overflowError"], apart := false }
def LinearNeverSaid : Prop := linearNeverRow.holds Try.pinned (OpenSpec.ofChange linearNeverSpec)

/-- ITS FALSE NEIGHBOUR: 'it returns false'. Refute it at one input. -/
def linearNeverWrong : ChangeSpec := { name := "linearNever", fn := fun _ => fun
  | [d1, d2, d3] => { results := [.lit (.bool false)], args := [d1, d2, d3] }
  | _ => none }
def LinearNeverWrongFalsely : Prop := linearNeverRow.holds Try.pinned (OpenSpec.ofChange linearNeverWrong)

/- THE SECOND FORM. 'bulk': how many values and letters a reading holds, each counted each time it is reached (what is shared counts as often as it is met; a slice's spare places count too). A statement '..UptoSaid' is the law's where the arguments, and the package variables that the reading takes, are together of bulk at most 1048576: NARROWER than '..Said'. Prove '..Said' where nothing that the law and all that it calls make is longer than what came in: it says more and counts as full. Else prove '..UptoSaid'. A law counts once. -/
mutual
def uptoBulk {H : Type} : DataW H → Nat
  | .lit (.string bytes) => bytes.length + 1
  | .lit _ => 1
  | .nil => 1
  | .ptr d => uptoBulk d + 1
  | .slice elems spare => uptoBulkAll elems + uptoBulkAll spare + 1
  | .agg parts => uptoBulkAll parts + 1
  | .iface _ d => uptoBulk d + 1
  | .map entries => uptoBulkEntries entries + 1
  | .held _ => 1
def uptoBulkAll {H : Type} : List (DataW H) → Nat
  | [] => 0
  | d :: r => uptoBulk d + uptoBulkAll r
def uptoBulkEntries {H : Type} : List (Lit × DataW H) → Nat
  | [] => 0
  | x :: r => uptoBulkEntry x + uptoBulkEntries r
def uptoBulkEntry {H : Type} : Lit × DataW H → Nat
  | (.string bytes, d) => bytes.length + uptoBulk d + 1
  | (_, d) => uptoBulk d + 1
 end
def uptoSmall : (H : Type) → List (DataW H) → Bool := fun _ ds => decide (uptoBulkAll ds ≤ 1048576)
def OpenSpec.upto (s : _root_.Go.ChangeSpec) : _root_.Go.OpenSpec := { _root_.Go.OpenSpec.ofChange s with cond := some uptoSmall }

/-- 'cinnabarlaw26.LinearSolve', WHERE WHAT IT READS IS OF BULK AT MOST 1048576: true; the input reads as it did. -/
def linearSolveUptoRow : OpenClaim := { program := "ytgcdiccbehiijaa", sum := "7072a7311d4844ab3bd4ea86d926563e2a19d43b45e051b44a76ea62a6205421", func := "cinnabar/cinnabarlaw26.LinearSolve", spec := "linearSolve", inPlace := ["math/bits.Add64", "math/bits.Sub64"], unfollowed := true, recurses := true, named := ["math/bits.divideError", "math/bits.overflowError"], apart := false, narrowed := true }
def LinearSolveUptoSaid : Prop := linearSolveUptoRow.holds Try.pinned (OpenSpec.upto linearSolveSpec)

/-- 'cinnabarlaw26.LinearMore', WHERE WHAT IT READS IS OF BULK AT MOST 1048576: true; the input reads as it did. -/
def linearMoreUptoRow : OpenClaim := { program := "ytgcdiccbehiijaa", sum := "7072a7311d4844ab3bd4ea86d926563e2a19d43b45e051b44a76ea62a6205421", func := "cinnabar/cinnabarlaw26.LinearMore", spec := "linearMore", inPlace := ["math/bits.Add64", "math/bits.Sub64"], unfollowed := true, recurses := true, named := ["math/bits.divideError", "math/bits.overflowError"], apart := false, narrowed := true }
def LinearMoreUptoSaid : Prop := linearMoreUptoRow.holds Try.pinned (OpenSpec.upto linearMoreSpec)

/-- 'cinnabarlaw26.LinearFields', WHERE WHAT IT READS IS OF BULK AT MOST 1048576: true; the input reads as it did. -/
def linearFieldsUptoRow : OpenClaim := { program := "ytgcdiccbehiijaa", sum := "7072a7311d4844ab3bd4ea86d926563e2a19d43b45e051b44a76ea62a6205421", func := "cinnabar/cinnabarlaw26.LinearFields", spec := "linearFields", inPlace := ["math/bits.Add64", "math/bits.Sub64"], unfollowed := true, recurses := true, named := ["math/bits.divideError", "math/bits.overflowError"], apart := false, narrowed := true }
def LinearFieldsUptoSaid : Prop := linearFieldsUptoRow.holds Try.pinned (OpenSpec.upto linearFieldsSpec)

/-- 'cinnabarlaw26.LinearRats', WHERE WHAT IT READS IS OF BULK AT MOST 1048576: true; the input reads as it did. -/
def linearRatsUptoRow : OpenClaim := { program := "ytgcdiccbehiijaa", sum := "7072a7311d4844ab3bd4ea86d926563e2a19d43b45e051b44a76ea62a6205421", func := "cinnabar/cinnabarlaw26.LinearRats", spec := "linearRats", inPlace := ["math/bits.Add64", "math/bits.Sub64"], unfollowed := true, recurses := true, named := ["math/bits.divideError", "math/bits.overflowError"], apart := false, narrowed := true }
def LinearRatsUptoSaid : Prop := linearRatsUptoRow.holds Try.pinned (OpenSpec.upto linearRatsSpec)

/-- 'cinnabarlaw26.LinearCheck', WHERE WHAT IT READS IS OF BULK AT MOST 1048576: true; the input reads as it did. -/
def linearCheckUptoRow : OpenClaim := { program := "ytgcdiccbehiijaa", sum := "7072a7311d4844ab3bd4ea86d926563e2a19d43b45e051b44a76ea62a6205421", func := "cinnabar/cinnabarlaw26.LinearCheck", spec := "linearCheck", inPlace := ["math/bits.Add64", "math/bits.Sub64"], unfollowed := true, recurses := true, named := ["math/bits.divideError", "math/bits.overflowError"], apart := false, narrowed := true }
def LinearCheckUptoSaid : Prop := linearCheckUptoRow.holds Try.pinned (OpenSpec.upto linearCheckSpec)

/-- 'cinnabarlaw26.LinearNever', WHERE WHAT IT READS IS OF BULK AT MOST 1048576: true; the input reads as it did. -/
def linearNeverUptoRow : OpenClaim := { program := "ytgcdiccbehiijaa", sum := "7072a7311d4844ab3bd4ea86d926563e2a19d43b45e051b44a76ea62a6205421", func := "cinnabar/cinnabarlaw26.LinearNever", spec := "linearNever", inPlace := ["math/bits.Add64", "math/bits.Sub64"], unfollowed := true, recurses := true, named := ["math/bits.divideError", "math/bits.overflowError"], apart := false, narrowed := true }
def LinearNeverUptoSaid : Prop := linearNeverUptoRow.holds Try.pinned (OpenSpec.upto linearNeverSpec)

end Rows
end Go.Proofs.Ytgcdiccbehiijaa
