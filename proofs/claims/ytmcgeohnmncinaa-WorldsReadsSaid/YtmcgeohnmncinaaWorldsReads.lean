/- WorldsReads returns true and leaves its arguments alone, for every input (Char, Peek and Line read the input). No conditions but the row's own. -/
import Derived.Test.YtmcgeohnmncinaaERow
set_option linter.all false
namespace Go.Proofs.Ytmcgeohnmncinaa.W
open Go.Fw
set_option maxRecDepth 100000
open Go.ChangeShapes Go.WideShapes Go.ChangeAt Go.RowKit in
theorem lifted6 (os : Os) (started : os.Started) (H : Type) (enc : TypeId × Value → H) :
    ReturnsInHanded {} Try.checked os 6 .any (Rows.worldsReadsSpec.pre6 enc Try.prog Try.f6 Rows.worldsReadsRow.domain false) (Rows.worldsReadsSpec.post enc Try.prog Try.f6 false true false false) :=
  law_returns (C := Try.checked) sysOk27 plain Try.func6 (by kernel_rfl) (by kernel_rfl) (by kernel_rfl) pure6 rfl (fun ds hd => by
    have h1 : Try.f6.params.size = 1 := by kernel_rfl
    match ds, hd.trans h1 with
    | [a], _ => rfl) (rt := 4) (by kernel_rfl) (by kernel_rfl) laidOut (by kernel_rfl) own started (by kernel_rfl)
    (ChangeSpec.witness6 (enc := enc) (C := Try.checked) false ⟨#[], #[wz], []⟩ 8 (by kernel_rfl) (by kernel_rfl) (by kernel_rfl) (by kernel_rfl))
theorem over6 : Rows.worldsReadsRow.holds Try.pinned (OpenSpec.ofChange Rows.worldsReadsSpec) :=
  OpenClaim.holds_of_wide 6 Try.f6 rfl rfl rfl rfl rfl rfl rfl ⟨rfl, rfl, rfl, rfl, rfl⟩ rfl rfl rfl rfl rfl (by kernel_rfl) Try.func6 (by kernel_rfl)
    (of_decide_eq_true (by kernel_rfl)) (by unfold Func.isWrapper; first | (rw [if_pos (by decide +kernel)]; kernel_rfl) | (rw [if_neg (by decide +kernel)]; exact ⟨rfl, rfl⟩))
    (fun os started H enc _ => lifted6 os started H enc)
end Go.Proofs.Ytmcgeohnmncinaa.W
namespace Go.Proofs.Ytmcgeohnmncinaa
/-- the statement -/
theorem worldsReads_holds : Rows.WorldsReadsSaid := W.over6
end Go.Proofs.Ytmcgeohnmncinaa
