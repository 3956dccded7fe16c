/- ValuesTypes returns true and leaves its arguments alone, for every input (definitions and types). No conditions but the row's own. -/
import Derived.Test.YtciighngjnjmlaaGh
set_option linter.all false
namespace Go.Proofs.Ytciighngjnjmlaa.W
open Go.Fw
set_option maxRecDepth 100000
open Go.ChangeShapes Go.WideShapes Go.ChangeAt Go.RowKit in
theorem lifted6 (os : Os) (started : os.Started) (H : Type) (enc : TypeId × Value → H) :
    ReturnsInHanded {} Try.checked os 6 .any (Rows.valuesTypesSpec.pre6 enc Try.prog Try.f6 Rows.valuesTypesRow.domain false) (Rows.valuesTypesSpec.post enc Try.prog Try.f6 false true false false) :=
  law_returnsN (C := Try.checked) sysOk plain Try.func6 (by kernel_rfl) (by kernel_rfl) (by kernel_rfl) pure6 rfl (fun ds hd => by
    have h1 : Try.f6.params.size = 3 := by kernel_rfl
    match ds, hd.trans h1 with
    | [a, b, c], _ => rfl) (rt := 4) (by kernel_rfl) (by kernel_rfl) laidOut (by kernel_rfl) own started (by kernel_rfl)
    (ChangeSpec.witness6 (enc := enc) (C := Try.checked) false ⟨#[], #[vl, vx, vl], []⟩ 8 (by kernel_rfl) (by kernel_rfl) (by kernel_rfl) (by kernel_rfl))
theorem over6 : Rows.valuesTypesRow.holds Try.pinned (OpenSpec.ofChange Rows.valuesTypesSpec) :=
  OpenClaim.holds_of_wide 6 Try.f6 rfl rfl rfl rfl rfl rfl rfl ⟨rfl, rfl, rfl, rfl, rfl⟩ rfl rfl rfl rfl rfl (by kernel_rfl) Try.func6 (by kernel_rfl)
    (of_decide_eq_true (by kernel_rfl)) (by unfold Func.isWrapper; first | (rw [if_pos (by decide +kernel)]; kernel_rfl) | (rw [if_neg (by decide +kernel)]; exact ⟨rfl, rfl⟩))
    (fun os started H enc _ => lifted6 os started H enc)
end Go.Proofs.Ytciighngjnjmlaa.W
namespace Go.Proofs.Ytciighngjnjmlaa
theorem valuesTypes_holds : Rows.ValuesTypesSaid := W.over6
end Go.Proofs.Ytciighngjnjmlaa
