/- LinearFields returns true and leaves its arguments alone, for every input (sums and products of rationals obey the rules of a field, where they have no error). No conditions but the row's own. -/
import Derived.Test.YtgcdiccbehiijaaG4
set_option linter.all false
namespace Go.Proofs.Ytgcdiccbehiijaa.W
open Go.Fw
set_option maxRecDepth 100000
open Go.ChangeShapes Go.WideShapes Go.ChangeAt Go.RowKit in
theorem lifted5 (os : Os) (started : os.Started) (H : Type) (enc : TypeId × Value → H) :
    ReturnsInHanded {} Try.checked os 5 .any (Rows.linearFieldsSpec.pre6 enc Try.prog Try.f5 Rows.linearFieldsRow.domain false) (Rows.linearFieldsSpec.post enc Try.prog Try.f5 false true false false) :=
  law_returns (C := Try.checked) sysC4Ok plain Try.func5 (by kernel_rfl) (by kernel_rfl) (by kernel_rfl) pure5 rfl (fun ds hd => by
    have h1 : Try.f5.params.size = 3 := by kernel_rfl
    match ds, hd.trans h1 with
    | [a, b, c], _ => rfl) (rt := 4) (by kernel_rfl) (by kernel_rfl) laidOut (by kernel_rfl) own started (by kernel_rfl)
    (ChangeSpec.witness6 (enc := enc) (C := Try.checked) false ⟨#[], #[rz, rz, rz], []⟩ 8 (by kernel_rfl) (by kernel_rfl) (by kernel_rfl) (by kernel_rfl))
theorem over5 : Rows.linearFieldsRow.holds Try.pinned (OpenSpec.ofChange Rows.linearFieldsSpec) :=
  OpenClaim.holds_of_wide 5 Try.f5 rfl rfl rfl rfl rfl rfl rfl ⟨rfl, rfl, rfl, rfl, rfl⟩ rfl rfl rfl rfl rfl (by kernel_rfl) Try.func5 (by kernel_rfl)
    (of_decide_eq_true (by kernel_rfl)) (by unfold Func.isWrapper; first | (rw [if_pos (by decide +kernel)]; kernel_rfl) | (rw [if_neg (by decide +kernel)]; exact ⟨rfl, rfl⟩))
    (fun os started H enc _ => lifted5 os started H enc)
end Go.Proofs.Ytgcdiccbehiijaa.W
namespace Go.Proofs.Ytgcdiccbehiijaa
/-- the statement -/
theorem linearFields_holds : Rows.LinearFieldsSaid := W.over5
end Go.Proofs.Ytgcdiccbehiijaa
