/- ValuesBelongs returns true and leaves its arguments alone, for every input (what belongs to a type). No conditions but the row's own. -/
import Derived.Test.YtciighngjnjmlaaGh
set_option linter.all false
namespace Go.Proofs.Ytciighngjnjmlaa.W
open Go.Fw
set_option maxRecDepth 100000
open Go.ChangeShapes Go.WideShapes Go.ChangeAt Go.RowKit in
theorem lifted3 (os : Os) (started : os.Started) (H : Type) (enc : TypeId × Value → H) :
    ReturnsInHanded {} Try.checked os 3 .any (Rows.valuesBelongsSpec.pre6 enc Try.prog Try.f3 Rows.valuesBelongsRow.domain false) (Rows.valuesBelongsSpec.post enc Try.prog Try.f3 false true false false) :=
  law_returnsN (C := Try.checked) sysOk plain Try.func3 (by kernel_rfl) (by kernel_rfl) (by kernel_rfl) pure3 rfl (fun ds hd => by
    have h1 : Try.f3.params.size = 3 := by kernel_rfl
    match ds, hd.trans h1 with
    | [a, b, c], _ => rfl) (rt := 4) (by kernel_rfl) (by kernel_rfl) laidOut (by kernel_rfl) own started (by kernel_rfl)
    (ChangeSpec.witness6 (enc := enc) (C := Try.checked) false ⟨#[], #[vl, vt, vz], []⟩ 8 (by kernel_rfl) (by kernel_rfl) (by kernel_rfl) (by kernel_rfl))
theorem over3 : Rows.valuesBelongsRow.holds Try.pinned (OpenSpec.ofChange Rows.valuesBelongsSpec) :=
  OpenClaim.holds_of_wide 3 Try.f3 rfl rfl rfl rfl rfl rfl rfl ⟨rfl, rfl, rfl, rfl, rfl⟩ rfl rfl rfl rfl rfl (by kernel_rfl) Try.func3 (by kernel_rfl)
    (of_decide_eq_true (by kernel_rfl)) (by unfold Func.isWrapper; first | (rw [if_pos (by decide +kernel)]; kernel_rfl) | (rw [if_neg (by decide +kernel)]; exact ⟨rfl, rfl⟩))
    (fun os started H enc _ => lifted3 os started H enc)
end Go.Proofs.Ytciighngjnjmlaa.W
namespace Go.Proofs.Ytciighngjnjmlaa
theorem valuesBelongs_holds : Rows.ValuesBelongsSaid := W.over3
end Go.Proofs.Ytciighngjnjmlaa
