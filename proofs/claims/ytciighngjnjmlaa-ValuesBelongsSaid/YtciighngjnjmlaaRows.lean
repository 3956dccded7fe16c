/-
  NARROWER THAN 'FOR EVERY INPUT', by the rows' own cells (each row's printed sentence says how): ValuesBelongs: loops · ValuesOrder: loops · ValuesTotal: loops · ValuesTypes: loops · ValuesLists: loops · ValuesBack: loops.
  DERIVED. THE GIVEN ROWS OF THIS SEAT. 6 by the template 'for every input the law returns true; each argument reads behind the call as it read before'; 0 by the template 'total and deterministic' (their statements: YtciighngjnjmlaaTotals.lean).
  GIVEN WITH THE SEED: the statements are not yours to turn. If you find one false, say at which input.
  Laid BY PROGRAM, IN A SANDBOX (cutbox-rows.mjs): the forced cells as the released guide's own fill.sh prints them over the translation 4cf99f5b790a97ae… (all of the seat's roots in one cut). By AI agents, Wed Nov 11 2026. No macro, syntax, notation, axiom, sorry.
-/
import Derived.Test.YtciighngjnjmlaaChecked
import GoSem.Claim
import GoSem.ClaimJoined
import GoSem.ClaimMapViews
import Derived.JoinedTies
import Derived.KernelRfl
namespace Go.Proofs.Ytciighngjnjmlaa
/- THE CELL 'sum', in the pinned program and in every row, IS THE sha256 OF THE DUMP (.gsa) THAT YtciighngjnjmlaaProg.lean LOADS. Nothing in Lean hashes anything: it is a label: what it is worth is what the hold of that sum in a sandbox is worth. -/
noncomputable def Try.pinned : Pinned := { name := "ytciighngjnjmlaa", sum := "4cf99f5b790a97ae65a560c6fe1292113e7ea53d5c5fc4cdecdcb8072775c790", checked := Try.checked }
namespace Rows
def none {H : Type} : Left H := { results := [], args := [] }

/-- 'cinnabarlaw07.ValuesBelongs': WHATEVER THE INPUT: true; the input reads as it did. -/
def valuesBelongsSpec : ChangeSpec := { name := "valuesBelongs", fn := fun _ => fun
  | [d1, d2, d3] => { results := [.lit (.bool true)], args := [d1, d2, d3] }
  | _ => none }
def valuesBelongsRow : OpenClaim := { program := "ytciighngjnjmlaa", sum := "4cf99f5b790a97ae65a560c6fe1292113e7ea53d5c5fc4cdecdcb8072775c790", func := "cinnabar/cinnabarlaw07.ValuesBelongs", spec := "valuesBelongs", inPlace := ["internal/bytealg.abigen_runtime_cmpstring"], unfollowed := true, recurses := true, loops := true, apart := false }
def ValuesBelongsSaid : Prop := valuesBelongsRow.holds Try.pinned (OpenSpec.ofChange valuesBelongsSpec)

/-- ITS FALSE NEIGHBOUR: 'it returns false'. Refute it at one input. -/
def valuesBelongsWrong : ChangeSpec := { name := "valuesBelongs", fn := fun _ => fun
  | [d1, d2, d3] => { results := [.lit (.bool false)], args := [d1, d2, d3] }
  | _ => none }
def ValuesBelongsWrongFalsely : Prop := valuesBelongsRow.holds Try.pinned (OpenSpec.ofChange valuesBelongsWrong)

/-- 'cinnabarlaw07.ValuesOrder': WHATEVER THE INPUT: true; the input reads as it did. -/
def valuesOrderSpec : ChangeSpec := { name := "valuesOrder", fn := fun _ => fun
  | [d1, d2] => { results := [.lit (.bool true)], args := [d1, d2] }
  | _ => none }
def valuesOrderRow : OpenClaim := { program := "ytciighngjnjmlaa", sum := "4cf99f5b790a97ae65a560c6fe1292113e7ea53d5c5fc4cdecdcb8072775c790", func := "cinnabar/cinnabarlaw07.ValuesOrder", spec := "valuesOrder", inPlace := ["internal/bytealg.abigen_runtime_cmpstring"], unfollowed := true, recurses := true, loops := true, apart := false }
def ValuesOrderSaid : Prop := valuesOrderRow.holds Try.pinned (OpenSpec.ofChange valuesOrderSpec)

/-- ITS FALSE NEIGHBOUR: 'it returns false'. Refute it at one input. -/
def valuesOrderWrong : ChangeSpec := { name := "valuesOrder", fn := fun _ => fun
  | [d1, d2] => { results := [.lit (.bool false)], args := [d1, d2] }
  | _ => none }
def ValuesOrderWrongFalsely : Prop := valuesOrderRow.holds Try.pinned (OpenSpec.ofChange valuesOrderWrong)

/-- 'cinnabarlaw07.ValuesTotal': WHATEVER THE INPUT: true; the input reads as it did. -/
def valuesTotalSpec : ChangeSpec := { name := "valuesTotal", fn := fun _ => fun
  | [d] => { results := [.lit (.bool true)], args := [d] }
  | _ => none }
def valuesTotalRow : OpenClaim := { program := "ytciighngjnjmlaa", sum := "4cf99f5b790a97ae65a560c6fe1292113e7ea53d5c5fc4cdecdcb8072775c790", func := "cinnabar/cinnabarlaw07.ValuesTotal", spec := "valuesTotal", inPlace := ["internal/bytealg.abigen_runtime_cmpstring"], unfollowed := true, recurses := true, loops := true, apart := false }
def ValuesTotalSaid : Prop := valuesTotalRow.holds Try.pinned (OpenSpec.ofChange valuesTotalSpec)

/-- ITS FALSE NEIGHBOUR: 'it returns false'. Refute it at one input. -/
def valuesTotalWrong : ChangeSpec := { name := "valuesTotal", fn := fun _ => fun
  | [d] => { results := [.lit (.bool false)], args := [d] }
  | _ => none }
def ValuesTotalWrongFalsely : Prop := valuesTotalRow.holds Try.pinned (OpenSpec.ofChange valuesTotalWrong)

/-- 'cinnabarlaw07.ValuesTypes': WHATEVER THE INPUT: true; the input reads as it did. -/
def valuesTypesSpec : ChangeSpec := { name := "valuesTypes", fn := fun _ => fun
  | [d1, d2, d3] => { results := [.lit (.bool true)], args := [d1, d2, d3] }
  | _ => none }
def valuesTypesRow : OpenClaim := { program := "ytciighngjnjmlaa", sum := "4cf99f5b790a97ae65a560c6fe1292113e7ea53d5c5fc4cdecdcb8072775c790", func := "cinnabar/cinnabarlaw07.ValuesTypes", spec := "valuesTypes", inPlace := ["internal/bytealg.abigen_runtime_cmpstring"], unfollowed := true, recurses := true, loops := true, apart := false }
def ValuesTypesSaid : Prop := valuesTypesRow.holds Try.pinned (OpenSpec.ofChange valuesTypesSpec)

/-- ITS FALSE NEIGHBOUR: 'it returns false'. Refute it at one input. -/
def valuesTypesWrong : ChangeSpec := { name := "valuesTypes", fn := fun _ => fun
  | [d1, d2, d3] => { results := [.lit (.bool false)], args := [d1, d2, d3] }
  | _ => none }
def ValuesTypesWrongFalsely : Prop := valuesTypesRow.holds Try.pinned (OpenSpec.ofChange valuesTypesWrong)

/-- 'cinnabarlaw07.ValuesLists': WHATEVER THE INPUT: true; the input reads as it did. -/
def valuesListsSpec : ChangeSpec := { name := "valuesLists", fn := fun _ => fun
  | [d1, d2] => { results := [.lit (.bool true)], args := [d1, d2] }
  | _ => none }
def valuesListsRow : OpenClaim := { program := "ytciighngjnjmlaa", sum := "4cf99f5b790a97ae65a560c6fe1292113e7ea53d5c5fc4cdecdcb8072775c790", func := "cinnabar/cinnabarlaw07.ValuesLists", spec := "valuesLists", inPlace := ["internal/bytealg.abigen_runtime_cmpstring"], unfollowed := true, recurses := true, loops := true, apart := false }
def ValuesListsSaid : Prop := valuesListsRow.holds Try.pinned (OpenSpec.ofChange valuesListsSpec)

/-- ITS FALSE NEIGHBOUR: 'it returns false'. Refute it at one input. -/
def valuesListsWrong : ChangeSpec := { name := "valuesLists", fn := fun _ => fun
  | [d1, d2] => { results := [.lit (.bool false)], args := [d1, d2] }
  | _ => none }
def ValuesListsWrongFalsely : Prop := valuesListsRow.holds Try.pinned (OpenSpec.ofChange valuesListsWrong)

/-- 'cinnabarlaw07.ValuesBack': WHATEVER THE INPUT: true; the input reads as it did. -/
def valuesBackSpec : ChangeSpec := { name := "valuesBack", fn := fun _ => fun
  | [d1, d2, d3] => { results := [.lit (.bool true)], args := [d1, d2, d3] }
  | _ => none }
def valuesBackRow : OpenClaim := { program := "ytciighngjnjmlaa", sum := "4cf99f5b790a97ae65a560c6fe1292113e7ea53d5c5fc4cdecdcb8072775c790", func := "cinnabar/cinnabarlaw07.ValuesBack", spec := "valuesBack", inPlace := ["internal/bytealg.abigen_runtime_cmpstring"], unfollowed := true, recurses := true, loops := true, apart := false }
def ValuesBackSaid : Prop := valuesBackRow.holds Try.pinned (OpenSpec.ofChange valuesBackSpec)

/-- ITS FALSE NEIGHBOUR: 'it returns false'. Refute it at one input. -/
def valuesBackWrong : ChangeSpec := { name := "valuesBack", fn := fun _ => fun
  | [d1, d2, d3] => { results := [.lit (.bool false)], args := [d1, d2, d3] }
  | _ => none }
def ValuesBackWrongFalsely : Prop := valuesBackRow.holds Try.pinned (OpenSpec.ofChange valuesBackWrong)

/- THE SECOND FORM. 'bulk': how many values and letters a reading holds, each counted each time it is reached (what is shared counts as often as it is met; a slice's spare places count too). A statement '..UptoSaid' is the law's where the arguments, and the package variables that the reading takes, are together of bulk at most 1048576: NARROWER than '..Said'. Prove '..Said' where nothing that the law and all that it calls make is longer than what came in: it says more and counts as full. Else prove '..UptoSaid'. A law counts once. -/
mutual
def uptoBulk {H : Type} : DataW H → Nat
  | .lit (.string bytes) => bytes.length + 1
  | .lit _ => 1
  | .nil => 1
  | .ptr d => uptoBulk d + 1
  | .slice elems spare => uptoBulkAll elems + uptoBulkAll spare + 1
  | .agg parts => uptoBulkAll parts + 1
  | .iface _ d => uptoBulk d + 1
  | .map entries => uptoBulkEntries entries + 1
  | .held _ => 1
def uptoBulkAll {H : Type} : List (DataW H) → Nat
  | [] => 0
  | d :: r => uptoBulk d + uptoBulkAll r
def uptoBulkEntries {H : Type} : List (Lit × DataW H) → Nat
  | [] => 0
  | x :: r => uptoBulkEntry x + uptoBulkEntries r
def uptoBulkEntry {H : Type} : Lit × DataW H → Nat
  | (.string bytes, d) => bytes.length + uptoBulk d + 1
  | (_, d) => uptoBulk d + 1
 end
def uptoSmall : (H : Type) → List (DataW H) → Bool := fun _ ds => decide (uptoBulkAll ds ≤ 1048576)
def OpenSpec.upto (s : _root_.Go.ChangeSpec) : _root_.Go.OpenSpec := { _root_.Go.OpenSpec.ofChange s with cond := some uptoSmall }

/-- 'cinnabarlaw07.ValuesBelongs', WHERE WHAT IT READS IS OF BULK AT MOST 1048576: true; the input reads as it did. -/
def valuesBelongsUptoRow : OpenClaim := { program := "ytciighngjnjmlaa", sum := "4cf99f5b790a97ae65a560c6fe1292113e7ea53d5c5fc4cdecdcb8072775c790", func := "cinnabar/cinnabarlaw07.ValuesBelongs", spec := "valuesBelongs", inPlace := ["internal/bytealg.abigen_runtime_cmpstring"], unfollowed := true, recurses := true, loops := true, apart := false, narrowed := true }
def ValuesBelongsUptoSaid : Prop := valuesBelongsUptoRow.holds Try.pinned (OpenSpec.upto valuesBelongsSpec)

/-- 'cinnabarlaw07.ValuesOrder', WHERE WHAT IT READS IS OF BULK AT MOST 1048576: true; the input reads as it did. -/
def valuesOrderUptoRow : OpenClaim := { program := "ytciighngjnjmlaa", sum := "4cf99f5b790a97ae65a560c6fe1292113e7ea53d5c5fc4cdecdcb8072775c790", func := "cinnabar/cinnabarlaw07.ValuesOrder", spec := "valuesOrder", inPlace := ["internal/bytealg.abigen_runtime_cmpstring"], unfollowed := true, recurses := true, loops := true, apart := false, narrowed := true }
def ValuesOrderUptoSaid : Prop := valuesOrderUptoRow.holds Try.pinned (OpenSpec.upto valuesOrderSpec)

/-- 'cinnabarlaw07.ValuesTotal', WHERE WHAT IT READS IS OF BULK AT MOST 1048576: true; the input reads as it did. -/
def valuesTotalUptoRow : OpenClaim := { program := "ytciighngjnjmlaa", sum := "4cf99f5b790a97ae65a560c6fe1292113e7ea53d5c5fc4cdecdcb8072775c790", func := "cinnabar/cinnabarlaw07.ValuesTotal", spec := "valuesTotal", inPlace := ["internal/bytealg.abigen_runtime_cmpstring"], unfollowed := true, recurses := true, loops := true, apart := false, narrowed := true }
def ValuesTotalUptoSaid : Prop := valuesTotalUptoRow.holds Try.pinned (OpenSpec.upto valuesTotalSpec)

/-- 'cinnabarlaw07.ValuesTypes', WHERE WHAT IT READS IS OF BULK AT MOST 1048576: true; the input reads as it did. -/
def valuesTypesUptoRow : OpenClaim := { program := "ytciighngjnjmlaa", sum := "4cf99f5b790a97ae65a560c6fe1292113e7ea53d5c5fc4cdecdcb8072775c790", func := "cinnabar/cinnabarlaw07.ValuesTypes", spec := "valuesTypes", inPlace := ["internal/bytealg.abigen_runtime_cmpstring"], unfollowed := true, recurses := true, loops := true, apart := false, narrowed := true }
def ValuesTypesUptoSaid : Prop := valuesTypesUptoRow.holds Try.pinned (OpenSpec.upto valuesTypesSpec)

/-- 'cinnabarlaw07.ValuesLists', WHERE WHAT IT READS IS OF BULK AT MOST 1048576: true; the input reads as it did. -/
def valuesListsUptoRow : OpenClaim := { program := "ytciighngjnjmlaa", sum := "4cf99f5b790a97ae65a560c6fe1292113e7ea53d5c5fc4cdecdcb8072775c790", func := "cinnabar/cinnabarlaw07.ValuesLists", spec := "valuesLists", inPlace := ["internal/bytealg.abigen_runtime_cmpstring"], unfollowed := true, recurses := true, loops := true, apart := false, narrowed := true }
def ValuesListsUptoSaid : Prop := valuesListsUptoRow.holds Try.pinned (OpenSpec.upto valuesListsSpec)

/-- 'cinnabarlaw07.ValuesBack', WHERE WHAT IT READS IS OF BULK AT MOST 1048576: true; the input reads as it did. -/
def valuesBackUptoRow : OpenClaim := { program := "ytciighngjnjmlaa", sum := "4cf99f5b790a97ae65a560c6fe1292113e7ea53d5c5fc4cdecdcb8072775c790", func := "cinnabar/cinnabarlaw07.ValuesBack", spec := "valuesBack", inPlace := ["internal/bytealg.abigen_runtime_cmpstring"], unfollowed := true, recurses := true, loops := true, apart := false, narrowed := true }
def ValuesBackUptoSaid : Prop := valuesBackUptoRow.holds Try.pinned (OpenSpec.upto valuesBackSpec)

end Rows
end Go.Proofs.Ytciighngjnjmlaa
