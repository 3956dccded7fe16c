/-
  No cell of these rows narrows 'for every input' (looked for: loops, veiled, ifaces, maps, wideKeys, modest, calm, conditions, laid).
  DERIVED. THE GIVEN ROWS OF THIS SEAT. 7 by the template 'for every input the law returns true; each argument reads behind the call as it read before'; 0 by the template 'total and deterministic' (their statements: YtmcgeohnmncinaaTotals.lean).
  GIVEN WITH THE SEED: the statements are not yours to turn. If you find one false, say at which input.
  Laid BY PROGRAM, IN A SANDBOX (cutbox-rows.mjs): the forced cells as the released guide's own fill.sh prints them over the translation 89e9dea0c83ae680… (all of the seat's roots in one cut). By AI agents, Wed Nov 11 2026. No macro, syntax, notation, axiom, sorry.
-/
import Derived.Test.YtmcgeohnmncinaaChecked
import GoSem.Claim
import GoSem.ClaimJoined
import GoSem.ClaimMapViews
import Derived.JoinedTies
import Derived.KernelRfl
namespace Go.Proofs.Ytmcgeohnmncinaa
/- THE CELL 'sum', in the pinned program and in every row, IS THE sha256 OF THE DUMP (.gsa) THAT YtmcgeohnmncinaaProg.lean LOADS. Nothing in Lean hashes anything: it is a label: what it is worth is what the hold of that sum in a sandbox is worth. -/
noncomputable def Try.pinned : Pinned := { name := "ytmcgeohnmncinaa", sum := "89e9dea0c83ae680eee556f8a24a8237a2dff8d7a703ba797c8f45213d3765dd", checked := Try.checked }
namespace Rows
def none {H : Type} : Left H := { results := [], args := [] }

/-- 'cinnabarlaw08.WorldsLines': WHATEVER THE INPUT: true; the input reads as it did. -/
def worldsLinesSpec : ChangeSpec := { name := "worldsLines", fn := fun _ => fun
  | [d] => { results := [.lit (.bool true)], args := [d] }
  | _ => none }
def worldsLinesRow : OpenClaim := { program := "ytmcgeohnmncinaa", sum := "89e9dea0c83ae680eee556f8a24a8237a2dff8d7a703ba797c8f45213d3765dd", func := "cinnabar/cinnabarlaw08.WorldsLines", spec := "worldsLines", inPlace := ["internal/bytealg.IndexByteString", "internal/bytealg.IndexString"], unfollowed := true, recurses := true, named := ["internal/bytealg.MaxLen"], apart := false }
def WorldsLinesSaid : Prop := worldsLinesRow.holds Try.pinned (OpenSpec.ofChange worldsLinesSpec)

/-- ITS FALSE NEIGHBOUR: 'it returns false'. Refute it at one input. -/
def worldsLinesWrong : ChangeSpec := { name := "worldsLines", fn := fun _ => fun
  | [d] => { results := [.lit (.bool false)], args := [d] }
  | _ => none }
def WorldsLinesWrongFalsely : Prop := worldsLinesRow.holds Try.pinned (OpenSpec.ofChange worldsLinesWrong)

/-- 'cinnabarlaw08.WorldsWrites': WHATEVER THE INPUT: true; the input reads as it did. -/
def worldsWritesSpec : ChangeSpec := { name := "worldsWrites", fn := fun _ => fun
  | [d1, d2] => { results := [.lit (.bool true)], args := [d1, d2] }
  | _ => none }
def worldsWritesRow : OpenClaim := { program := "ytmcgeohnmncinaa", sum := "89e9dea0c83ae680eee556f8a24a8237a2dff8d7a703ba797c8f45213d3765dd", func := "cinnabar/cinnabarlaw08.WorldsWrites", spec := "worldsWrites", inPlace := ["internal/bytealg.IndexByteString", "internal/bytealg.IndexString"], unfollowed := true, recurses := true, named := ["internal/bytealg.MaxLen"], apart := false }
def WorldsWritesSaid : Prop := worldsWritesRow.holds Try.pinned (OpenSpec.ofChange worldsWritesSpec)

/-- ITS FALSE NEIGHBOUR: 'it returns false'. Refute it at one input. -/
def worldsWritesWrong : ChangeSpec := { name := "worldsWrites", fn := fun _ => fun
  | [d1, d2] => { results := [.lit (.bool false)], args := [d1, d2] }
  | _ => none }
def WorldsWritesWrongFalsely : Prop := worldsWritesRow.holds Try.pinned (OpenSpec.ofChange worldsWritesWrong)

/-- 'cinnabarlaw08.WorldsCheck': WHATEVER THE INPUT: true; the input reads as it did. -/
def worldsCheckSpec : ChangeSpec := { name := "worldsCheck", fn := fun _ => fun
  | [d1, d2] => { results := [.lit (.bool true)], args := [d1, d2] }
  | _ => none }
def worldsCheckRow : OpenClaim := { program := "ytmcgeohnmncinaa", sum := "89e9dea0c83ae680eee556f8a24a8237a2dff8d7a703ba797c8f45213d3765dd", func := "cinnabar/cinnabarlaw08.WorldsCheck", spec := "worldsCheck", inPlace := ["internal/bytealg.IndexByteString", "internal/bytealg.IndexString"], unfollowed := true, recurses := true, named := ["internal/bytealg.MaxLen"], apart := false }
def WorldsCheckSaid : Prop := worldsCheckRow.holds Try.pinned (OpenSpec.ofChange worldsCheckSpec)

/-- ITS FALSE NEIGHBOUR: 'it returns false'. Refute it at one input. -/
def worldsCheckWrong : ChangeSpec := { name := "worldsCheck", fn := fun _ => fun
  | [d1, d2] => { results := [.lit (.bool false)], args := [d1, d2] }
  | _ => none }
def WorldsCheckWrongFalsely : Prop := worldsCheckRow.holds Try.pinned (OpenSpec.ofChange worldsCheckWrong)

/-- 'cinnabarlaw08.WorldsReads': WHATEVER THE INPUT: true; the input reads as it did. -/
def worldsReadsSpec : ChangeSpec := { name := "worldsReads", fn := fun _ => fun
  | [d] => { results := [.lit (.bool true)], args := [d] }
  | _ => none }
def worldsReadsRow : OpenClaim := { program := "ytmcgeohnmncinaa", sum := "89e9dea0c83ae680eee556f8a24a8237a2dff8d7a703ba797c8f45213d3765dd", func := "cinnabar/cinnabarlaw08.WorldsReads", spec := "worldsReads", inPlace := ["internal/bytealg.IndexByteString", "internal/bytealg.IndexString"], unfollowed := true, recurses := true, named := ["internal/bytealg.MaxLen"], apart := false }
def WorldsReadsSaid : Prop := worldsReadsRow.holds Try.pinned (OpenSpec.ofChange worldsReadsSpec)

/-- ITS FALSE NEIGHBOUR: 'it returns false'. Refute it at one input. -/
def worldsReadsWrong : ChangeSpec := { name := "worldsReads", fn := fun _ => fun
  | [d] => { results := [.lit (.bool false)], args := [d] }
  | _ => none }
def WorldsReadsWrongFalsely : Prop := worldsReadsRow.holds Try.pinned (OpenSpec.ofChange worldsReadsWrong)

/-- 'cinnabarlaw08.WorldsKept': WHATEVER THE INPUT: true; the input reads as it did. -/
def worldsKeptSpec : ChangeSpec := { name := "worldsKept", fn := fun _ => fun
  | [d1, d2] => { results := [.lit (.bool true)], args := [d1, d2] }
  | _ => none }
def worldsKeptRow : OpenClaim := { program := "ytmcgeohnmncinaa", sum := "89e9dea0c83ae680eee556f8a24a8237a2dff8d7a703ba797c8f45213d3765dd", func := "cinnabar/cinnabarlaw08.WorldsKept", spec := "worldsKept", inPlace := ["internal/bytealg.IndexByteString", "internal/bytealg.IndexString", "internal/bytealg.abigen_runtime_cmpstring", "slices.overlaps[cinnabar/api.File]"], unfollowed := true, recurses := true, named := ["internal/bytealg.MaxLen"], apart := false }
def WorldsKeptSaid : Prop := worldsKeptRow.holds Try.pinned (OpenSpec.ofChange worldsKeptSpec)

/-- ITS FALSE NEIGHBOUR: 'it returns false'. Refute it at one input. -/
def worldsKeptWrong : ChangeSpec := { name := "worldsKept", fn := fun _ => fun
  | [d1, d2] => { results := [.lit (.bool false)], args := [d1, d2] }
  | _ => none }
def WorldsKeptWrongFalsely : Prop := worldsKeptRow.holds Try.pinned (OpenSpec.ofChange worldsKeptWrong)

/-- 'cinnabarlaw08.WorldsFiles': WHATEVER THE INPUT: true; the input reads as it did. -/
def worldsFilesSpec : ChangeSpec := { name := "worldsFiles", fn := fun _ => fun
  | [d1, d2, d3] => { results := [.lit (.bool true)], args := [d1, d2, d3] }
  | _ => none }
def worldsFilesRow : OpenClaim := { program := "ytmcgeohnmncinaa", sum := "89e9dea0c83ae680eee556f8a24a8237a2dff8d7a703ba797c8f45213d3765dd", func := "cinnabar/cinnabarlaw08.WorldsFiles", spec := "worldsFiles", inPlace := ["internal/bytealg.IndexByteString", "internal/bytealg.IndexString", "internal/bytealg.abigen_runtime_cmpstring", "slices.overlaps[cinnabar/api.File]"], unfollowed := true, recurses := true, named := ["internal/bytealg.MaxLen"], apart := false }
def WorldsFilesSaid : Prop := worldsFilesRow.holds Try.pinned (OpenSpec.ofChange worldsFilesSpec)

/-- ITS FALSE NEIGHBOUR: 'it returns false'. Refute it at one input. -/
def worldsFilesWrong : ChangeSpec := { name := "worldsFiles", fn := fun _ => fun
  | [d1, d2, d3] => { results := [.lit (.bool false)], args := [d1, d2, d3] }
  | _ => none }
def WorldsFilesWrongFalsely : Prop := worldsFilesRow.holds Try.pinned (OpenSpec.ofChange worldsFilesWrong)

/-- 'cinnabarlaw08.WorldsApart': WHATEVER THE INPUT: true; the input reads as it did. -/
def worldsApartSpec : ChangeSpec := { name := "worldsApart", fn := fun _ => fun
  | [d1, d2, d3] => { results := [.lit (.bool true)], args := [d1, d2, d3] }
  | _ => none }
def worldsApartRow : OpenClaim := { program := "ytmcgeohnmncinaa", sum := "89e9dea0c83ae680eee556f8a24a8237a2dff8d7a703ba797c8f45213d3765dd", func := "cinnabar/cinnabarlaw08.WorldsApart", spec := "worldsApart", inPlace := ["internal/bytealg.IndexByteString", "internal/bytealg.IndexString", "internal/bytealg.abigen_runtime_cmpstring", "slices.overlaps[cinnabar/api.File]"], unfollowed := true, recurses := true, named := ["internal/bytealg.MaxLen"], apart := false }
def WorldsApartSaid : Prop := worldsApartRow.holds Try.pinned (OpenSpec.ofChange worldsApartSpec)

/-- ITS FALSE NEIGHBOUR: 'it returns false'. Refute it at one input. -/
def worldsApartWrong : ChangeSpec := { name := "worldsApart", fn := fun _ => fun
  | [d1, d2, d3] => { results := [.lit (.bool false)], args := [d1, d2, d3] }
  | _ => none }
def WorldsApartWrongFalsely : Prop := worldsApartRow.holds Try.pinned (OpenSpec.ofChange worldsApartWrong)

/- THE SECOND FORM. 'bulk': how many values and letters a reading holds, each counted each time it is reached (what is shared counts as often as it is met; a slice's spare places count too). A statement '..UptoSaid' is the law's where the arguments, and the package variables that the reading takes, are together of bulk at most 1048576: NARROWER than '..Said'. Prove '..Said' where nothing that the law and all that it calls make is longer than what came in: it says more and counts as full. Else prove '..UptoSaid'. A law counts once. -/
mutual
def uptoBulk {H : Type} : DataW H → Nat
  | .lit (.string bytes) => bytes.length + 1
  | .lit _ => 1
  | .nil => 1
  | .ptr d => uptoBulk d + 1
  | .slice elems spare => uptoBulkAll elems + uptoBulkAll spare + 1
  | .agg parts => uptoBulkAll parts + 1
  | .iface _ d => uptoBulk d + 1
  | .map entries => uptoBulkEntries entries + 1
  | .held _ => 1
def uptoBulkAll {H : Type} : List (DataW H) → Nat
  | [] => 0
  | d :: r => uptoBulk d + uptoBulkAll r
def uptoBulkEntries {H : Type} : List (Lit × DataW H) → Nat
  | [] => 0
  | x :: r => uptoBulkEntry x + uptoBulkEntries r
def uptoBulkEntry {H : Type} : Lit × DataW H → Nat
  | (.string bytes, d) => bytes.length + uptoBulk d + 1
  | (_, d) => uptoBulk d + 1
 end
def uptoSmall : (H : Type) → List (DataW H) → Bool := fun _ ds => decide (uptoBulkAll ds ≤ 1048576)
def OpenSpec.upto (s : _root_.Go.ChangeSpec) : _root_.Go.OpenSpec := { _root_.Go.OpenSpec.ofChange s with cond := some uptoSmall }

/-- 'cinnabarlaw08.WorldsLines', WHERE WHAT IT READS IS OF BULK AT MOST 1048576: true; the input reads as it did. -/
def worldsLinesUptoRow : OpenClaim := { program := "ytmcgeohnmncinaa", sum := "89e9dea0c83ae680eee556f8a24a8237a2dff8d7a703ba797c8f45213d3765dd", func := "cinnabar/cinnabarlaw08.WorldsLines", spec := "worldsLines", inPlace := ["internal/bytealg.IndexByteString", "internal/bytealg.IndexString"], unfollowed := true, recurses := true, named := ["internal/bytealg.MaxLen"], apart := false, narrowed := true }
def WorldsLinesUptoSaid : Prop := worldsLinesUptoRow.holds Try.pinned (OpenSpec.upto worldsLinesSpec)

/-- 'cinnabarlaw08.WorldsWrites', WHERE WHAT IT READS IS OF BULK AT MOST 1048576: true; the input reads as it did. -/
def worldsWritesUptoRow : OpenClaim := { program := "ytmcgeohnmncinaa", sum := "89e9dea0c83ae680eee556f8a24a8237a2dff8d7a703ba797c8f45213d3765dd", func := "cinnabar/cinnabarlaw08.WorldsWrites", spec := "worldsWrites", inPlace := ["internal/bytealg.IndexByteString", "internal/bytealg.IndexString"], unfollowed := true, recurses := true, named := ["internal/bytealg.MaxLen"], apart := false, narrowed := true }
def WorldsWritesUptoSaid : Prop := worldsWritesUptoRow.holds Try.pinned (OpenSpec.upto worldsWritesSpec)

/-- 'cinnabarlaw08.WorldsCheck', WHERE WHAT IT READS IS OF BULK AT MOST 1048576: true; the input reads as it did. -/
def worldsCheckUptoRow : OpenClaim := { program := "ytmcgeohnmncinaa", sum := "89e9dea0c83ae680eee556f8a24a8237a2dff8d7a703ba797c8f45213d3765dd", func := "cinnabar/cinnabarlaw08.WorldsCheck", spec := "worldsCheck", inPlace := ["internal/bytealg.IndexByteString", "internal/bytealg.IndexString"], unfollowed := true, recurses := true, named := ["internal/bytealg.MaxLen"], apart := false, narrowed := true }
def WorldsCheckUptoSaid : Prop := worldsCheckUptoRow.holds Try.pinned (OpenSpec.upto worldsCheckSpec)

/-- 'cinnabarlaw08.WorldsReads', WHERE WHAT IT READS IS OF BULK AT MOST 1048576: true; the input reads as it did. -/
def worldsReadsUptoRow : OpenClaim := { program := "ytmcgeohnmncinaa", sum := "89e9dea0c83ae680eee556f8a24a8237a2dff8d7a703ba797c8f45213d3765dd", func := "cinnabar/cinnabarlaw08.WorldsReads", spec := "worldsReads", inPlace := ["internal/bytealg.IndexByteString", "internal/bytealg.IndexString"], unfollowed := true, recurses := true, named := ["internal/bytealg.MaxLen"], apart := false, narrowed := true }
def WorldsReadsUptoSaid : Prop := worldsReadsUptoRow.holds Try.pinned (OpenSpec.upto worldsReadsSpec)

/-- 'cinnabarlaw08.WorldsKept', WHERE WHAT IT READS IS OF BULK AT MOST 1048576: true; the input reads as it did. -/
def worldsKeptUptoRow : OpenClaim := { program := "ytmcgeohnmncinaa", sum := "89e9dea0c83ae680eee556f8a24a8237a2dff8d7a703ba797c8f45213d3765dd", func := "cinnabar/cinnabarlaw08.WorldsKept", spec := "worldsKept", inPlace := ["internal/bytealg.IndexByteString", "internal/bytealg.IndexString", "internal/bytealg.abigen_runtime_cmpstring", "slices.overlaps[cinnabar/api.File]"], unfollowed := true, recurses := true, named := ["internal/bytealg.MaxLen"], apart := false, narrowed := true }
def WorldsKeptUptoSaid : Prop := worldsKeptUptoRow.holds Try.pinned (OpenSpec.upto worldsKeptSpec)

/-- 'cinnabarlaw08.WorldsFiles', WHERE WHAT IT READS IS OF BULK AT MOST 1048576: true; the input reads as it did. -/
def worldsFilesUptoRow : OpenClaim := { program := "ytmcgeohnmncinaa", sum := "89e9dea0c83ae680eee556f8a24a8237a2dff8d7a703ba797c8f45213d3765dd", func := "cinnabar/cinnabarlaw08.WorldsFiles", spec := "worldsFiles", inPlace := ["internal/bytealg.IndexByteString", "internal/bytealg.IndexString", "internal/bytealg.abigen_runtime_cmpstring", "slices.overlaps[cinnabar/api.File]"], unfollowed := true, recurses := true, named := ["internal/bytealg.MaxLen"], apart := false, narrowed := true }
def WorldsFilesUptoSaid : Prop := worldsFilesUptoRow.holds Try.pinned (OpenSpec.upto worldsFilesSpec)

/-- 'cinnabarlaw08.WorldsApart', WHERE WHAT IT READS IS OF BULK AT MOST 1048576: true; the input reads as it did. -/
def worldsApartUptoRow : OpenClaim := { program := "ytmcgeohnmncinaa", sum := "89e9dea0c83ae680eee556f8a24a8237a2dff8d7a703ba797c8f45213d3765dd", func := "cinnabar/cinnabarlaw08.WorldsApart", spec := "worldsApart", inPlace := ["internal/bytealg.IndexByteString", "internal/bytealg.IndexString", "internal/bytealg.abigen_runtime_cmpstring", "slices.overlaps[cinnabar/api.File]"], unfollowed := true, recurses := true, named := ["internal/bytealg.MaxLen"], apart := false, narrowed := true }
def WorldsApartUptoSaid : Prop := worldsApartUptoRow.holds Try.pinned (OpenSpec.upto worldsApartSpec)

end Rows
end Go.Proofs.Ytmcgeohnmncinaa
