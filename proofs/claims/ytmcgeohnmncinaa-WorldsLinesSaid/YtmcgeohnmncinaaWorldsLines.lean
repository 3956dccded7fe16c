/- WorldsLines returns true and leaves its arguments alone, for every input (lines, with their ends, are what was left of the input). No conditions but the row's own. -/
import Derived.Test.YtmcgeohnmncinaaERow
set_option linter.all false
namespace Go.Proofs.Ytmcgeohnmncinaa.W
open Go.Fw
set_option maxRecDepth 100000
open Go.ChangeShapes Go.WideShapes Go.ChangeAt Go.RowKit in
theorem lifted3 (os : Os) (started : os.Started) (H : Type) (enc : TypeId × Value → H) :
    ReturnsInHanded {} Try.checked os 3 .any (Rows.worldsLinesSpec.pre6 enc Try.prog Try.f3 Rows.worldsLinesRow.domain false) (Rows.worldsLinesSpec.post enc Try.prog Try.f3 false true false false) :=
  law_returns (C := Try.checked) sysOk27 plain Try.func3 (by kernel_rfl) (by kernel_rfl) (by kernel_rfl) pure3 rfl (fun ds hd => by
    have h1 : Try.f3.params.size = 1 := by kernel_rfl
    match ds, hd.trans h1 with
    | [a], _ => rfl) (rt := 4) (by kernel_rfl) (by kernel_rfl) laidOut (by kernel_rfl) own started (by kernel_rfl)
    (ChangeSpec.witness6 (enc := enc) (C := Try.checked) false ⟨#[], #[wz], []⟩ 8 (by kernel_rfl) (by kernel_rfl) (by kernel_rfl) (by kernel_rfl))
theorem over3 : Rows.worldsLinesRow.holds Try.pinned (OpenSpec.ofChange Rows.worldsLinesSpec) :=
  OpenClaim.holds_of_wide 3 Try.f3 rfl rfl rfl rfl rfl rfl rfl ⟨rfl, rfl, rfl, rfl, rfl⟩ rfl rfl rfl rfl rfl (by kernel_rfl) Try.func3 (by kernel_rfl)
    (of_decide_eq_true (by kernel_rfl)) (by unfold Func.isWrapper; first | (rw [if_pos (by decide +kernel)]; kernel_rfl) | (rw [if_neg (by decide +kernel)]; exact ⟨rfl, rfl⟩))
    (fun os started H enc _ => lifted3 os started H enc)
end Go.Proofs.Ytmcgeohnmncinaa.W
namespace Go.Proofs.Ytmcgeohnmncinaa
/-- the statement -/
theorem worldsLines_holds : Rows.WorldsLinesSaid := W.over3
end Go.Proofs.Ytmcgeohnmncinaa
